/- What the proof stands on: AuFrames, Count, AuCheck, AuCheck2. -/
import Derived.Test.YtaafkchlmndbkaaGreatFree
/- What each frame is for: the list of all uses. -/
namespace Go.Dn
open Go.Proofs
variable {A : AH} {l R ol : List SP} {c : Mb} {u : Int} {F G : Int→Prop} {W : Int→Int→Int} {ls : List Ln} {z : PcZ} {sps : List (Int × Value)} {lk m b : Nat} {U U1 : List Us} {X : SP} {mb : Nat→Nat} {g : Nat} {st : Nat→List Int} {gl : List Int} {n : Int}
def SpcIn (c : Mb) (W : Int→Int→Int) (sps : List (Int × Value)) (ol : List SP) (U1 : List Us) : Prop := (sps = [] ∧ ol = [] ∧ U1 = []) ∨ ∃ id p root s regs lent,sps = [(id,ptrV p)] ∧ ol = [OneS p 0 root s regs lent] ∧ (0 ≤ id ∧ id < 1000000) ∧ regs.length ≤ 64 ∧ okT W c.N 4 root 0 ∧
 (bitZ (W root 256) 0 = true→hasF c.N [] (frameZ (W root 256)) = true) ∧ U1 = entsU (W root) (fun j e => if j = 256 then useK W e else []) 512 ++ useT W regs id 4 root 0
theorem Lk.pushO (h : Own (X :: LkS lk m U :: MacL c F G W u ls z sps (ol ++ R)) A) : Own (LkS lk m U :: MacL c F G W u ls z sps (ol ++ X :: R)) A := by
 have h2 : Own (X :: (([LkS lk m U,RamW c.r c.N [] W,Bud c.b F G (c.N - 1 - u),TreeS c.t [⟨-1,c.N - 1,u,0,true⟩],At c.m (macC c),MapI c.sp .i64 sps,TlbS c.tl ls,PcS c.tg z] ++ ol) ++ R)) A := by
  rw [List.append_assoc];exact h
 have h3 := h2.perm (List.perm_middle (l₁ := [LkS lk m U,RamW c.r c.N [] W,Bud c.b F G (c.N - 1 - u),TreeS c.t [⟨-1,c.N - 1,u,0,true⟩],At c.m (macC c),MapI c.sp .i64 sps,TlbS c.tl ls,PcS c.tg z] ++ ol) (a := X) (l₂ := R)).symm
 rw [List.append_assoc] at h3
 exact h3
theorem budL_len : (budL b mb g st gl n).length = 13 := by simp [budL,frees]
theorem at_bud {k : Nat} {P : SP} (h : R[k]? = some P) : (budL b mb g st gl n ++ R)[13 + k]? = some P := by
 rw [List.getElem?_append_right (by rw [budL_len];omega),budL_len,Nat.add_sub_cancel_left];exact h
theorem Bud.fore (h : Own (X :: (budL b mb g st gl n ++ R)) A) : Own (budL b mb g st gl n ++ X :: R) A := h.perm List.perm_middle.symm
theorem Bud.aft (h : Own (budL b mb g st gl n ++ X :: R) A) : Own (X :: (budL b mb g st gl n ++ R)) A := h.perm List.perm_middle
theorem wrap_pow {o : Nat} (ho : o ≤ 10) : IntKind.wrap .i64 ((1 : Int) * 2 ^ (min (Int.toNat (o : Int)) 64)) = ((2 ^ o : Nat) : Int) := by
 rw [Int.toNat_natCast,show min o 64 = o by omega,Int.one_mul]
 have := pow_small (k := o) (by omega)
 rw [w64 (by omega) (by omega)];simp
theorem bound_at {i f k p t : Nat} (hi : i < k) (hf : f < p) (hk : t + k * p ≤ 1000000) : t + i * p + f < 1000000 := by
 have : (i + 1) * p ≤ k * p := Nat.mul_le_mul_right _ hi
 rw [Nat.add_mul] at this
 omega
theorem ol_at (hol : ol = [] ∨ ∃ O,ol = [O]) (pre : List SP) {X Y : SP} : ∃ k : Nat,(pre ++ (ol ++ X :: Y :: R))[k]? = some Y := by
 rcases hol with rfl | ⟨O,rfl⟩
 ·exact ⟨pre.length + 1,by simp⟩
 ·exact ⟨pre.length + 2,by simp⟩
set_option maxRecDepth 20000 in
set_option maxHeartbeats 1000000 in
theorem auFrames_spec {Q : Sl→AH→Prop} (h : Own (MacL c F G W u ls z sps (ol ++ R)) A) (hsp : SpcIn c W sps ol U1) (hU : (U1.length : Int) + (c.N - 1 - u) ≤ 1000000) (hu : 0 ≤ u) (hN : c.N ≤ 262144)
  (hk : ∀ s U' (fl : List Int) A',U'.Perm (U1 ++ fl.map fu)→U'.Pairwise (fun x y => x.1 ≤ y.1)→fl.Nodup→(∀ x,x ∈ fl ↔ F x)→(fl.length : Int) = c.N - 1 - u→s.len = U'.length→Own (SlO s 3 (usV U') :: MacL c F G W u ls z sps (ol ++ R)) A'→Q s A') :
  qdm_A (some ⟨c.m,0,none⟩) Q A := by
 have hn0 : 0 ≤ c.N - 1 - u := (bud_apart (h.pick 1 rfl)).2
 have hol : ol = [] ∨ ∃ O,ol = [O] := by
  rcases hsp with ⟨_,e,_⟩ | ⟨_,p,root,s,regs,lent,_,e,_⟩
  ·exact .inl e
  ·exact .inr ⟨_,e⟩
 unfold qdm_A qdm_G
 refine new_C (cs := [.pointer (some ⟨c.m,0,none⟩),.slice none 0 0]) h fun b1 A1 h1 => new_C (cs := [.pointer none]) h1 fun b3 A2 h2 => st_C (i := 0) h2 rfl rfl rfl fun A3 h3 => ?_
 have h3 : Own (At b3 [.pointer (some ⟨b1,0,none⟩)] :: At b1 [.pointer (some ⟨c.m,0,none⟩),.slice none 0 0] :: MacL c F G W u ls z sps (ol ++ R)) A3 := h3
 have h4 := Lk.pushO (h3.cons fun C hC => LkS.closeH (s := Sl.nil) (U := []) (fun _ => rfl) (Own.swap (Own.nil6 hC)))
 have hcnt : sps.length ≤ 1 ∧ ∀ a ∈ sps,0 ≤ a.1 ∧ a.1 < 1000000 := by
  rcases hsp with ⟨rfl,_⟩ | ⟨id,p,root,s,regs,lent,rfl,_,hid,_⟩
  ·exact ⟨by simp,fun a ha => by cases ha⟩
  ·exact ⟨by simp,fun a ha => by simp at ha;subst ha;exact hid⟩
 refine Spaces_spec (i := 4) (j := 5) h4 rfl rfl (by omega) hcnt.2 fun s is A4 hp hs h5 => ?_
 have h5 := Lk.pushO h5
 generalize hR2 : SlAt s 1 (is.map (.int .i64)) :: At b3 [.pointer (some ⟨b1,0,none⟩)] :: R = R2 at h5
 have hil : is.length = sps.length := by rw [hp.length_eq,List.length_map]
 refine ⟨fun x m A' => (x = 0 ∧ is.length = m ∧ Own (LkS b1 c.m [] :: MacL c F G W u ls z sps (ol ++ R2)) A') ∨ (x = is.length ∧ m = 0 ∧ Own (LkS b1 c.m U1 :: MacL c F G W u ls z sps (ol ++ R2)) A'),⟨_,.inl ⟨rfl,rfl,h5⟩⟩,?_⟩
 intro x m A5 hinv
 refine bsel_in (fun q => ?_) fun q => ?_
 ·have q : x < s.len := of_decide_eq_true q
  rcases hinv with ⟨rfl,rfl,h6⟩ | ⟨e,_⟩
  rotate_left
  ·omega
  rcases hsp with ⟨rfl,rfl,rfl⟩ | ⟨id,p,root,s1,regs,lent,rfl,rfl,hid,hrl,hok,hkf,hU1⟩
  ·have hil : is.length = 0 := hil
   omega
  have his : is = [id] := by simpa using hp
  subst his hR2
  have hs1 : s.len = 1 := hs
  obtain ⟨bb,o,q1,q2⟩ := sl_cell h6 (i := 9) rfl (j := 0) (v := .int .i64 id) rfl
  rw [q1]
  refine inB_in (by omega) (by omega) ⟨id,by rw [add_at];simpa using q2,?_⟩
  have hlk : List.lookup id [(id,ptrV p)] = some (ptrV p) := by simp [List.lookup]
  refine Root_head (i := 4) (j := 5) (k := 8) (sps := [(id,ptrV p)]) h6 rfl rfl hlk rfl ?_
  generalize hE : entsU (W root) (fun j e => if j = 256 then useK W e else []) 512 = EA at hU1
  generalize hT : useT W regs id 4 root 0 = TA at hU1
  subst hU1
  rw [List.length_append] at hU
  refine ⟨fun A' => Own (LkS b1 c.m EA :: MacL c F G W u ls z [(id,ptrV p)] ([OneS p 0 root s1 regs lent] ++ (SlAt s 1 ([id].map (.int .i64)) :: At b3 [.pointer (some ⟨b1,0,none⟩)] :: R))) A',fun A6 h7 => ?_,?_⟩
  ·refine ld_P (i := 10) h7 rfl rfl ?_
   refine ⟨4,tables_spec hlk hrl 4 (by omega) (by omega) h7 hok (by rw [hT];omega) fun A7 h8 => ?_⟩
   rw [hT] at h8
   exact ⟨0,by simp,.inr ⟨by rw [w64] <;> simp,rfl,h8⟩⟩
  ·refine bsel_t rfl (ld_P (i := 10) h6 rfl rfl ?_)
   show qdb_G qcl_A qcm_A qdd_A _ _ _ _ _
   refine ent_spec (see := qdd_A) (g := fun j e => if j = 256 then useK W e else []) h6 hok.1 (by rw [hE];simp only [List.length_nil];omega) (fun j U' A7 hj hb hlen h7 _ _ _ _ _ _ _ Q' hQ => ?_) fun A7 h7 => by rw [hE] at h7;exact h7
   unfold qdd_A qdd_G
   refine bsel_in (fun e => ?_) fun e => ?_
   ·have e : j = 256 := by simp at e;omega
    subst e
    simp only [if_true] at hQ hlen
    simp only [onSome_some]
    refine ld_P (i := 10) h7 rfl rfl ?_
    exact kernel_spec h7 (hkf hb) hlen hQ
   ·have e : j ≠ 256 := by simp at e;omega
    simp only [if_neg e,List.append_nil] at hQ
    exact hQ A7 h7
 have q : ¬ x < s.len := of_decide_eq_false q
 have hst : Own (LkS b1 c.m U1 :: MacL c F G W u ls z sps (ol ++ R2)) A5 := by
  rcases hinv with ⟨rfl,rfl,h6⟩ | ⟨_,_,h6⟩
  ·rcases hsp with ⟨rfl,rfl,rfl⟩ | ⟨id,p,root,s1,regs,lent,rfl,_⟩
   ·exact h6
   ·simp at hil;omega
  ·exact h6
 obtain ⟨k0,hk0⟩ : ∃ k0 : Nat,(RamW c.r c.N [] W :: TreeS c.t [⟨-1,c.N - 1,u,0,true⟩] :: At c.m (macC c) :: MapI c.sp .i64 sps :: TlbS c.tl ls :: PcS c.tg z :: (ol ++ R2))[k0]? = some (At b3 [.pointer (some ⟨b1,0,none⟩)]) := by
  rw [← hR2]
  exact ol_at hol [RamW c.r c.N [] W,TreeS c.t [⟨-1,c.N - 1,u,0,true⟩],At c.m (macC c),MapI c.sp .i64 sps,TlbS c.tl ls,PcS c.tg z]
 obtain ⟨k1,hk1⟩ : ∃ k1 : Nat,(MacL c F G W u ls z sps (ol ++ R2))[k1]? = some (At b3 [.pointer (some ⟨b1,0,none⟩)]) := by
  rw [← hR2]
  exact ol_at hol [RamW c.r c.N [] W,Bud c.b F G (c.N - 1 - u),TreeS c.t [⟨-1,c.N - 1,u,0,true⟩],At c.m (macC c),MapI c.sp .i64 sps,TlbS c.tl ls,PcS c.tg z]
 obtain ⟨mb,g,st,gl,hB,hG,hgl,h6⟩ := Bud.openH (hst.pick 2 rfl)
 generalize hRest : (RamW c.r c.N [] W :: TreeS c.t [⟨-1,c.N - 1,u,0,true⟩] :: At c.m (macC c) :: MapI c.sp .i64 sps :: TlbS c.tl ls :: PcS c.tg z :: (ol ++ R2)) = Rest at hk0
 have h6 : Own (budL c.b mb g st gl (c.N - 1 - u) ++ LkS b1 c.m U1 :: Rest) A5 := by rw [← hRest];exact h6
 have hm2 : Rest[2]? = some (At c.m (macC c)) := by rw [← hRest];rfl
 have h7 := Bud.aft h6
 obtain ⟨f1,f2,f3⟩ := frF_ok hB
 refine ⟨fun x m A' => ∃ o : Nat,x = o ∧ o ≤ 11 ∧ 11 - o = m ∧ ∃ U',U'.Perm (U1 ++ (frF st o).map fu) ∧ Own (LkS b1 c.m U' :: (budL c.b mb g st gl (c.N - 1 - u) ++ Rest)) A',⟨_,0,rfl,by omega,rfl,U1,by simp [frF],h7⟩,?_⟩
 intro x2 m2 A6 ⟨o,e1,e2,e3,U',hU',h8⟩
 subst e1 e3
 refine bsel_in (fun q2 => ?_) fun q2 => ?_
 ·have q2 : o ≤ 10 := by simp at q2;omega
  have hpo := pow_small (k := o) (by omega)
  simp only [onSome_some,add_at,Nat.zero_add]
  refine ld_P (i := 1 + (13 + 2)) h8 (by rw [Nat.add_comm 1,List.getElem?_cons_succ];exact at_bud hm2) rfl ?_
  refine Blocks_spec (Bud.fore h8) hB q2 (by omega) fun s2 ss A7 hss hsl h9 => ?_
  have h9 := (h9.cons fun C hC => Bud.aft hC).swap
  have hbox : (SlAt s2 1 (ss.map (.int .i64)) :: (budL c.b mb g st gl (c.N - 1 - u) ++ Rest))[1 + (13 + k0)]? = some (At b3 [.pointer (some ⟨b1,0,none⟩)]) := by rw [Nat.add_comm 1,List.getElem?_cons_succ];exact at_bud hk0
  have h1024 : 2 ^ o ≤ 1024 := Nat.le_trans (Nat.pow_le_pow_right (by omega) q2) (by decide)
  have hlenU : U'.length + ss.length * 2 ^ o ≤ 1000000 := by
   have k1 := hU'.length_eq
   have k2 : (frF st (o + 1)).length ≤ (frF st 11).length := frF_mono (by omega)
   rw [frF,List.length_append,blk_len,← hss.length_eq] at k2
   rw [List.length_append,List.length_map] at k1
   omega
  have hssl : ss.length ≤ 1000000 := by
   have : ss.length * 1 ≤ ss.length * 2 ^ o := Nat.mul_le_mul_left _ Nat.one_le_two_pow
   omega
  refine ⟨fun x m A' => ∃ i : Nat,x = i ∧ i ≤ ss.length ∧ ss.length - i = m ∧ Own (LkS b1 c.m (U' ++ ((ss.take i).flatMap (blk o)).map fu) :: SlAt s2 1 (ss.map (.int .i64)) :: (budL c.b mb g st gl (c.N - 1 - u) ++ Rest)) A',⟨_,0,rfl,by omega,rfl,by simpa using h9⟩,?_⟩
  intro x3 m3 A8 ⟨i,i1,i2,i3,h10⟩
  subst i1 i3
  refine bsel_in (fun q3 => ?_) fun q3 => ?_
  ·have q3 : i < ss.length := by simp at q3;omega
   obtain ⟨a,ha⟩ : ∃ a,ss[i]? = some a := ⟨ss[i],by simp [q3]⟩
   obtain ⟨bb,o2,q4,q5⟩ := sl_cell h10 (i := 1) rfl (j := i) (v := .int .i64 a) (by simp [ha])
   have hrng := hB.rng o a q2 (hss.mem_iff.1 (List.mem_of_getElem? ha))
   rw [q4]
   refine inB_in (by omega) (by omega) ⟨a,by rw [add_at];simpa using q5,bsel_f (by simp) ?_⟩
   rw [wrap_pow q2]
   have htk : ((ss.take i).flatMap (blk o)).length = i * 2 ^ o := by rw [blk_len,List.length_take];congr 1;omega
   refine ⟨fun x m A' => ∃ f : Nat,x = f ∧ f ≤ 2 ^ o ∧ 2 ^ o - f = m ∧ Own (LkS b1 c.m (U' ++ ((ss.take i).flatMap (blk o)).map fu ++ ((List.range f).map fun (t : Nat) => a + (t : Int)).map fu) :: SlAt s2 1 (ss.map (.int .i64)) :: (budL c.b mb g st gl (c.N - 1 - u) ++ Rest)) A',⟨_,0,rfl,Nat.zero_le _,rfl,by simpa using h10⟩,?_⟩
   intro x4 m4 A9 ⟨f,j1,j2,j3,h11⟩
   subst j1 j3
   refine bsel_in (fun q6 => ?_) fun q6 => ?_
   ·have q6 : f < 2 ^ o := by
     have := of_decide_eq_true q6
     exact_mod_cast this
    refine ld_P (i := 1 + (1 + (13 + k0))) h11 (by rw [Nat.add_comm 1 (1 + _),List.getElem?_cons_succ];exact hbox) rfl (ld_P (i := 1 + (1 + (13 + k0))) h11 (by rw [Nat.add_comm 1 (1 + _),List.getElem?_cons_succ];exact hbox) rfl ?_)
    have hfi : (f : Int) < 2 ^ o := by
     have : (f : Int) < ((2 ^ o : Nat) : Int) := by exact_mod_cast q6
     simpa using this
    rw [w64 (n := a + (f : Int)) (by omega) (by omega)]
    simp only [onSome_some,add_at,Nat.zero_add]
    refine use_add (k := 1 + (13 + k0)) h11 hbox ?_ fun A10 h12 => ?_
    ·rw [List.length_append,List.length_append,List.length_map,List.length_map,List.length_map,htk,List.length_range]
     exact bound_at q3 q6 hlenU
    ·refine ⟨2 ^ o - (f + 1),by omega,f + 1,?_,by omega,rfl,?_⟩
     ·rw [w64] <;> omega
     ·rw [List.range_succ,List.map_append,List.map_append,← List.append_assoc]
      exact h12
   ·have q6 : f = 2 ^ o := by
     have := of_decide_eq_false q6
     have : ¬ f < 2 ^ o := fun w => this (by exact_mod_cast w)
     omega
    subst q6
    refine ⟨ss.length - (i + 1),by omega,i + 1,by rw [w64] <;> omega,by omega,rfl,?_⟩
    have htk1 : ss.take (i + 1) = ss.take i ++ [a] := by rw [List.take_add_one,ha];rfl
    rw [htk1,List.flatMap_append,List.map_append,← List.append_assoc]
    have : [a].flatMap (blk o) = (List.range (2 ^ o)).map fun (t : Nat) => a + (t : Int) := by simp [blk]
    rw [this]
    exact h11
  ·have q3 : i = ss.length := by simp at q3;omega
   subst q3
   rw [List.take_length] at h10
   refine ⟨11 - (o + 1),by omega,o + 1,by rw [w64] <;> omega,by omega,rfl,_,?_,h10.cons fun C hC => hC.tail⟩
   rw [frF,List.map_append,← List.append_assoc]
   exact hU'.append ((List.Perm.flatMap_right _ hss).map _)
 ·have q2 : o = 11 := by simp at q2;omega
  subst q2
  have h9 := Bud.closeH hB hG hgl (Bud.fore h8)
  have h10 : Own (LkS b1 c.m U' :: MacL c F G W u ls z sps (ol ++ R2)) A6 := by
   subst hRest
   exact Own.back (l := LkS b1 c.m U' :: MacL c F G W u ls z sps (ol ++ R2)) (P := Bud c.b F G (c.N - 1 - u)) (P' := Bud c.b F G (c.N - 1 - u)) 2 rfl h9
  refine ld_P (i := k1 + 1) h10 (by rw [List.getElem?_cons_succ];exact hk1) rfl ?_
  obtain ⟨s3,hs3,h11⟩ := LkS.openH h10
  simp only [onSome_some,add_at,Nat.zero_add]
  have hlen : U'.length ≤ 1000000 := by
   have := hU'.length_eq
   rw [List.length_append,List.length_map] at this
   omega
  refine ld_S (i := 0) h11 rfl rfl (useSort_spec h11.swap hs3 hlen fun d' hd hsrt A7 h12 => ?_)
  refine ld_P (i := k1 + 2) h12 (by rw [List.getElem?_cons_succ,List.getElem?_cons_succ];exact hk1) rfl ?_
  simp only [onSome_some,add_at,Nat.zero_add]
  refine ld_S (i := 1) h12 rfl rfl (hk s3 d' (frF st 11) A7 (hd.trans hU') hsrt f1 f2 f3 ?_ ?_)
  ·obtain ⟨B,_,hB'⟩ := h12.sat
   have : s3.len * 3 = (usV d').length := hB'.1.1
   rw [usV_len] at this
   omega
  ·refine h12.cons fun C hC => MacL.mapR (fun D hD => hD.sub ?_) hC.tail
   subst hR2
   exact List.Sublist.append (List.Sublist.refl _) ((List.sublist_cons_self _ _).trans (List.sublist_cons_self _ _))
end Go.Dn
/- How many uses a list has of each kind. -/
namespace Go.Dn
open Go.Proofs
theorem and3 (x : Int) : bits .and .i64 x 3 = x % 4 := by
 have h2 : bits .and .i64 x 3 = IntKind.wrap .i64 ((BitVec.ofInt 64 x &&& BitVec.ofInt 64 3).toNat : Int) := rfl
 have h3 : ∀ n : Nat,n &&& 3 = n % 4 := fun n => Nat.and_two_pow_sub_one_eq_mod n 2
 rw [h2,BitVec.toNat_and,show (BitVec.ofInt 64 3).toNat = 3 from rfl,h3,BitVec.toNat_ofInt,w64] <;> omega
def cntU (U : List Us) (k : Int) : Nat := (U.filter fun x => x.2.1 % 4 == k).length
theorem cntU_snoc (U : List Us) (x : Us) (k : Int) : cntU (U ++ [x]) k = cntU U k + if x.2.1 % 4 = k then 1 else 0 := by
 unfold cntU
 rw [List.filter_append,List.length_append]
 congr 1
 by_cases e : x.2.1 % 4 = k <;> simp [e]
theorem cntU_app (U V : List Us) (k : Int) : cntU (U ++ V) k = cntU U k + cntU V k := by
 unfold cntU
 rw [List.filter_append,List.length_append]
theorem cntU_le (U : List Us) (k : Int) : cntU U k ≤ U.length := List.length_filter_le _ _
theorem cntU_perm {U V : List Us} (h : U.Perm V) (k : Int) : cntU U k = cntU V k := (h.filter _).length_eq
variable {A : AH} {l R : List SP} {P : SP} {k v : Nat} {s : Sl} {U : List Us} {y : Us}
theorem rd_use (h : Own l A) (e : l[k]? = some P) (hr : Reads P s 3 (usV U)) (hv : U[v]? = some y) :
  ∃ a,s.a = some a ∧ (∀ K : Int→Prop,K y.1→aI .i64 (Addr.add a (Int.toNat (v : Int) * 3)) A K) ∧ ∀ K : Int→Int→Int→Prop,K y.1 y.2.1 y.2.2 →
   aI .i64 (Addr.add a (Int.toNat (v : Int) * 3)) A fun n0 => aI .i64 (Addr.add (Addr.add a (Int.toNat (v : Int) * 3)) 1) A fun n1 => aI .i64 (Addr.add (Addr.add a (Int.toNat (v : Int) * 3)) 2) A fun n2 => K n0 n1 n2 := by
 obtain ⟨bb,o,q0,c0⟩ := rd_cell h e hr (j := v * 3 + 0) (usV_at hv (c := 0) rfl)
 have hc : ∀ c z,(useE y)[c]? = some z→cellA A ⟨bb,o + v * 3 + c,none⟩ = some z := fun c z hz => by
  obtain ⟨b2,o2,q1,c1⟩ := rd_cell h e hr (j := v * 3 + c) (usV_at hv hz)
  rw [q0] at q1
  cases q1
  rw [Nat.add_assoc]
  exact c1
 refine ⟨_,q0,fun K hK => ?_,fun K hK => ?_⟩
 ·simp only [add_at,Int.toNat_natCast]
  exact ⟨_,by simpa using hc 0 _ rfl,hK⟩
 ·simp only [add_at,Int.toNat_natCast]
  exact ⟨_,by simpa using hc 0 _ rfl,_,hc 1 _ rfl,_,hc 2 _ rfl,hK⟩
theorem rd_use_len (h : Own l A) (e : l[k]? = some P) (hr : Reads P s 3 (usV U)) : s.len = U.length := by
 have := rd_len h e hr
 rw [usV_len] at this
 omega
def cnts (U : List Us) : List Value := [.int .i64 (cntU U 0),.int .i64 (cntU U 1),.int .i64 (cntU U 2),.int .i64 (cntU U 3)]
set_option maxRecDepth 20000 in
theorem Count_spec {Q : Int→Int→Int→Int→AH→Prop} (h : Own l A) (e : l[k]? = some P) (hr : Reads P s 3 (usV U)) (hb : U.length ≤ 1000000)
  (hk : ∀ A',Own l A'→Q (cntU U 0) (cntU U 1) (cntU U 2) (cntU U 3) A') : qdn_A s Q A := by
 have hl := rd_use_len h e hr
 unfold qdn_A
 refine new_C (cs := cnts []) h fun b A1 h1 => ?_
 refine ⟨fun x m A' => ∃ v : Nat,x = v ∧ v ≤ U.length ∧ U.length - v = m ∧ Own (At b (cnts (U.take v)) :: l) A',⟨_,0,rfl,by omega,rfl,by simpa using h1⟩,?_⟩
 intro x m A2 ⟨v,e1,e2,e3,h2⟩
 subst e1 e3
 refine bsel_in (fun q => ?_) fun q => ?_
 ·have q : v < U.length := by simp at q;omega
  obtain ⟨y,hy⟩ : ∃ y,U[v]? = some y := ⟨U[v],by simp [q]⟩
  obtain ⟨a,q1,_,q2⟩ := rd_use (k := k + 1) h2 (by simpa using e) hr hy
  rw [q1]
  refine inB_in (by omega) (by omega) (q2 _ ?_)
  rw [and3]
  have hm4 : 0 ≤ y.2.1 % 4 ∧ y.2.1 % 4 < 4 := by omega
  have htk : U.take (v + 1) = U.take v ++ [y] := by rw [List.take_add_one,hy];rfl
  have hle : ∀ j,cntU (U.take v) j ≤ 1000000 := fun j => Nat.le_trans (cntU_le _ _) (by rw [List.length_take];omega)
  have fin : ∀ A',Own (At b (cnts (U.take v ++ [y])) :: l) A'→∃ m5,m5 < U.length - v ∧ ∃ v' : Nat,IntKind.wrap .i64 ((v : Int) + 1) = v' ∧ v' ≤ U.length ∧ U.length - v' = m5 ∧ Own (At b (cnts (U.take v')) :: l) A' := fun A' h' =>
   ⟨U.length - (v + 1),by omega,v + 1,by rw [w64] <;> omega,by omega,rfl,by rw [htk];exact h'⟩
  refine inB_in (by omega) (by omega) ?_
  rw [add_at]
  obtain e4 | e4 | e4 | e4 : y.2.1 % 4 = 0 ∨ y.2.1 % 4 = 1 ∨ y.2.1 % 4 = 2 ∨ y.2.1 % 4 = 3 := by omega
  all_goals
   rw [e4]
   refine ld_I (i := 0) h2 rfl rfl (inB_in (by omega) (by omega) ?_)
   refine st_C (i := 0) h2 rfl rfl rfl fun A3 h3 => fin A3 ?_
   unfold cnts at h3 ⊢
   simp only [cntU_snoc,e4]
   rw [w64 (by have := hle 0;have := hle 1;have := hle 2;have := hle 3;omega) (by have := hle 0;have := hle 1;have := hle 2;have := hle 3;omega)] at h3
   simpa using h3
 ·have : v = U.length := by simp at q;omega
  subst this
  rw [List.take_length] at h2
  exact ld_I (i := 0) h2 rfl rfl (ld_I (i := 0) h2 rfl rfl (ld_I (i := 0) h2 rfl rfl (ld_I (i := 0) h2 rfl rfl (hk A2 h2.tail))))
end Go.Dn
/- The audit's check: no frame is for two things, all that is given is for something. -/
namespace Go.Dn
open Go.Proofs
variable {A : AH} {l R ol : List SP} {c : Mb} {u : Int} {F G : Int→Prop} {W : Int→Int→Int} {ls : List Ln} {z : PcZ} {sps : List (Int × Value)} {m b t : Nat} {U U1 : List Us} {X : SP} {mb : Nat→Nat} {g : Nat} {st : Nat→List Int} {gl : List Int} {n : Int} {nd : Nd}
theorem Given_spec {Q : Sl→AH→Prop} (h : Own (budL b mb g st gl n ++ R) A) (hG : GOK gl F G) (hgl : gl.length ≤ 1048576)
  (hk : ∀ s (ss : List Int) A',ss.Perm gl→s.len = ss.length→Own (SlAt s 1 (ss.map (.int .i64)) :: (budL b mb g st gl n ++ R)) A'→Q s A') : qdr_A (some ⟨b,0,none⟩) Q A := by
 unfold qdr_A qdr_G
 simp only [onSome_some]
 refine ld_giv h ?_
 refine keys_spec (m := givE gl) (i := 1) h rfl (by simp [givE];omega) (fun p hp => ?_) fun s ss A1 hp hs h1 => hk s ss A1 ?_ hs h1
 ·obtain ⟨a,ha,rfl⟩ := List.mem_map.1 hp
  have := hG.apart a ((hG.mem a).2 ha)
  exact wf64 (by omega) (by omega)
 ·have : (givE gl).map (·.1) = gl := by unfold givE;rw [List.map_map];exact List.map_id' _
  rwa [this] at hp
theorem Order_spec {a : Int} {Q : Int→AH→Prop} (h : Own (budL b mb g st gl n ++ R) A) (ha : a ∈ gl) (hk : Q 0 A) : qds_A (some ⟨b,0,none⟩) a Q A := by
 unfold qds_A
 simp only [onSome_some]
 refine ld_giv h (lk_M (i := 1) (m := givE gl) h rfl ?_)
 unfold givE
 rw [keysE_lookup,if_pos ha]
 exact ⟨0,rfl,bsel_t rfl hk⟩
theorem Live_spec {Q : Sl→AH→Prop} (h : Own (TreeS t [nd] :: R) A) (hlv : nd.live = true) (hk : ∀ s A',s.len = 1→s.a ≠ none→Own (SlO s 1 [.int .i64 0] :: TreeS t [nd] :: R) A'→Q s A') : qdt_A (some ⟨t,0,none⟩) Q A := by
 obtain ⟨blk,cap,rest,⟨h1,h2⟩,hh⟩ := TreeS.openH h
 unfold qdt_A
 simp only [onSome_some]
 refine ld_S (i := 0) hh rfl rfl ?_
 refine ⟨fun s x m A' => (x = 0 ∧ s = Sl.nil ∧ m = 1 ∧ A' = A) ∨ (x = 1 ∧ m = 0 ∧ s.len = 1 ∧ s.a ≠ none ∧ Own (SlO s 1 [.int .i64 0] :: (treeL t blk cap [nd] rest ++ R)) A'),⟨1,.inl ⟨rfl,rfl,rfl,rfl⟩⟩,?_⟩
 intro s x m A1 hinv
 have hl1 : Int.ofNat ([nd] : List Nd).length = 1 := rfl
 rcases hinv with ⟨rfl,rfl,rfl,rfl⟩ | ⟨rfl,rfl,hs,hsa,h3⟩
 ·refine bsel_t (by simp) ?_
  refine ⟨fun s' A' => s'.len = 1 ∧ s'.a ≠ none ∧ Own (SlO s' 1 [.int .i64 0] :: (treeL t blk cap [nd] rest ++ R)) A',fun s' A' hA => ⟨0,by omega,.inr ⟨by rw [w64] <;> simp,rfl,hA⟩⟩,?_⟩
  refine inB_in (by omega) (by simp) ?_
  have e0 : Int.toNat 0 * 5 = 0 := rfl
  rw [e0]
  have a0 : Addr.add ⟨blk,0,none⟩ 0 = ⟨blk,0 * 5,none⟩ := by rw [add_at]
  rw [a0]
  refine ld_I (i := 1) hh rfl (cell_ix (f := 0) (i := 0) rfl (by omega) rfl) (ld_nd hh rfl (by omega) rfl (ld_nd hh rfl (by omega) rfl (ld_nd hh rfl (by omega) rfl ?_)))
  rw [add_at]
  refine ld_B (i := 1) hh rfl (cell_ix (f := 4) (i := 0) rfl (by omega) rfl) (bsel_t hlv ?_)
  refine new_C (cs := [.int .i64 0]) hh fun b16 A2 h4 => ?_
  have h5 := h4.nil6 (sz := 1)
  refine ap_reads (i := 0) h5 rfl (reads_at (n := 1) (sz := 1) (cs := [.int .i64 0]) (rest := []) rfl) (fun g => nomatch g) (fun _ => rfl) rfl (fun v hv => by simp at hv;subst hv;rfl) ⟨by simp [Sl.nil],by simp [Sl.nil]⟩ fun s' A3 j1 j2 h6 => ?_
  exact ⟨by simpa [Sl.nil] using j1,fun g => (by simpa using j2 g),h6.cons fun C hC => hC.tail⟩
 ·refine bsel_f (by simp) ?_
  exact hk s A1 hs hsa (h3.cons fun C hC => TreeS.closeH h1 h2 hC)
theorem part_len {N u : Int} {fl gl : List Int} (h1 : fl.Nodup) (h2 : ∀ x,x ∈ fl ↔ F x) (h3 : GOK gl F G) (hp : ∀ x,(F x ∨ G x) ↔ 1 ≤ x ∧ x < N) (hN : 1 ≤ N) (hl : (fl.length : Int) = N - 1 - u) : (gl.length : Int) = u := by
 have hn : (fl ++ gl).Nodup := List.nodup_append.2 ⟨h1,h3.nodup,fun x hx y hy e => by subst e;exact (h3.apart x ((h3.mem x).2 hy)).1 ((h2 x).1 hx)⟩
 have hr : ((List.range (N - 1).toNat).map fun (t : Nat) => (t : Int) + 1).Nodup := by
  refine List.Pairwise.map _ (fun x y (h : x ≠ y) => ?_) List.nodup_range
  omega
 have hpm : (fl ++ gl).Perm ((List.range (N - 1).toNat).map fun (t : Nat) => (t : Int) + 1) := by
  refine (List.perm_ext_iff_of_nodup hn hr).2 fun x => ?_
  rw [List.mem_append,h2,← h3.mem,hp,List.mem_map]
  constructor
  ·rintro ⟨a1,a2⟩
   exact ⟨(x - 1).toNat,by rw [List.mem_range];omega,by omega⟩
  ·rintro ⟨t,ht,rfl⟩
   have : t < (N - 1).toNat := by simpa using ht
   omega
 have := hpm.length_eq
 rw [List.length_append,List.length_map,List.length_range] at this
 omega
theorem cnt_fu (fl : List Int) (k : Int) (hk : k ≠ 0) : cntU (fl.map fu) k = 0 := by
 unfold cntU
 rw [List.length_eq_zero_iff,List.filter_eq_nil_iff]
 intro x hx
 obtain ⟨f,_,rfl⟩ := List.mem_map.1 hx
 simp [fu]
 omega
theorem cnt_fu0 (fl : List Int) : cntU (fl.map fu) 0 = fl.length := by
 unfold cntU
 rw [List.filter_eq_self.2]
 ·simp
 ·intro x hx
  obtain ⟨f,_,rfl⟩ := List.mem_map.1 hx
  rfl
theorem cnt_kinds : ∀ U : List Us,(∀ x ∈ U,x.2.1 = 1 ∨ x.2.1 = 2 ∨ x.2.1 = 3)→cntU U 1 + cntU U 2 + cntU U 3 = U.length ∧ cntU U 0 = 0
 | [],_ => ⟨rfl,rfl⟩
 | y :: U,h => by
  obtain ⟨i1,i2⟩ := cnt_kinds U fun x hx => h x (List.mem_cons_of_mem _ hx)
  have e : ∀ k,cntU (y :: U) k = cntU U k + if y.2.1 % 4 = k then 1 else 0 := fun k => by
   rw [← cntU_snoc]
   exact cntU_perm (List.perm_append_comm (l₁ := [y]) (l₂ := U)) k
  rw [e,e,e,e,List.length_cons]
  rcases h y List.mem_cons_self with q | q | q <;> rw [q] <;> simp <;> omega
end Go.Dn
/- The audit's check as a whole. -/
namespace Go.Dn
open Go.Proofs
variable {A : AH} {R ol : List SP} {c : Mb} {u : Int} {F G : Int→Prop} {W : Int→Int→Int} {ls : List Ln} {z : PcZ} {sps : List (Int × Value)} {U1 : List Us}
theorem adj_ne {U : List Us} (h : (U.map (·.1)).Nodup) {i : Nat} {x y : Us} (hx : U[i]? = some x) (hy : U[i + 1]? = some y) : y.1 ≠ x.1 := fun e => by
 have h1 := (List.getElem?_eq_some_iff.1 hx)
 have h2 := (List.getElem?_eq_some_iff.1 hy)
 obtain ⟨l1,e1⟩ := h1
 obtain ⟨l2,e2⟩ := h2
 exact (List.pairwise_iff_getElem.1 h) i (i + 1) (by simpa using l1) (by simpa using l2) (by omega) (by simp [e1,e2,e])
set_option maxRecDepth 20000 in
set_option maxHeartbeats 1000000 in
theorem Check_spec {Q : Int→AH→Prop} (h : Own (MacL c F G W u ls z sps (ol ++ R)) A) (hsp : SpcIn c W sps ol U1) (hU : (U1.length : Int) + (c.N - 1 - u) ≤ 1000000) (hu : 0 ≤ u) (hN : 1 ≤ c.N ∧ c.N ≤ 262144) (hpart : ∀ x,(F x ∨ G x) ↔ 1 ≤ x ∧ x < c.N)
  (hnd : (U1.map (·.1)).Nodup) (hG : ∀ x ∈ U1,G x.1) (hkd : ∀ x ∈ U1,x.2.1 = 1 ∨ x.2.1 = 2 ∨ x.2.1 = 3) (hlen : sps ≠ []→(U1.length : Int) = u) (hk : ∀ A',Own (MacL c F G W u ls z sps (ol ++ R)) A'→Q 0 A') : qdv_A (some ⟨c.m,0,none⟩) Q A := by
 have hFG := (bud_apart (h.pick 1 rfl)).1
 have hn0 : 0 ≤ c.N - 1 - u := (bud_apart (h.pick 1 rfl)).2
 have hsl : sps.length ≤ 1 ∧ ∀ a ∈ sps,0 ≤ a.1 ∧ a.1 < 1000000 := by
  rcases hsp with ⟨e,_⟩ | ⟨id,p,root,s,regs,lent,e,_,hid,_⟩
  ·rw [e];exact ⟨by simp,fun a ha => by cases ha⟩
  ·rw [e];exact ⟨by simp,fun a ha => by simp at ha;subst ha;exact hid⟩
 unfold qdv_A qdv_G
 refine auFrames_spec h hsp hU hu hN.2 fun s U fl A1 hp hsrt f1 f2 f3 hl h1 => ?_
 have hUl : U.length ≤ 1000000 := by
  have := hp.length_eq
  rw [List.length_append,List.length_map] at this
  omega
 have hnd2 : (U.map (·.1)).Nodup := by
  have e : (U1 ++ fl.map fu).map (·.1) = U1.map (·.1) ++ fl := by
   rw [List.map_append,List.map_map]
   congr 1
   exact List.map_id' _
  rw [(hp.map (·.1)).nodup_iff,e]
  refine List.nodup_append.2 ⟨hnd,f1,fun x hx y hy exy => ?_⟩
  subst exy
  obtain ⟨w,hw,rfl⟩ := List.mem_map.1 hx
  exact hFG _ ((f2 _).1 hy) (hG w hw)
 refine ⟨fun x m A' => ∃ v : Nat,x = v ∧ 1 ≤ v ∧ (v ≤ U.length ∨ v = 1) ∧ U.length + 1 - v = m ∧ A' = A1,⟨_,1,rfl,by omega,.inr rfl,rfl,rfl⟩,?_⟩
 intro x m A2 ⟨v,e1,e2,e3,e4,e5⟩
 subst e1 e4 e5
 refine bsel_in (fun q => ?_) fun q => ?_
 ·have q : v < U.length := by simp at q;omega
  obtain ⟨v,rfl⟩ : ∃ w,v = w + 1 := ⟨v - 1,by omega⟩
  obtain ⟨y,hy⟩ : ∃ y,U[v + 1]? = some y := ⟨U[v + 1],by simp [q]⟩
  obtain ⟨x,hx⟩ : ∃ y,U[v]? = some y := ⟨U[v]'(by omega),by simp⟩
  obtain ⟨a,q1,q2,_⟩ := rd_use (k := 0) h1 rfl reads_slo hy
  obtain ⟨a',q3,q4,_⟩ := rd_use (k := 0) h1 rfl reads_slo hx
  rw [q1] at q3
  cases q3
  rw [q1,show IntKind.wrap .i64 (((v + 1 : Nat) : Int) - 1) = (v : Int) by rw [w64] <;> omega]
  refine inB_in (by omega) (by omega) (q2 _ (inB_in (by omega) (by omega) (q4 _ (bsel_f ?_ ?_))))
  ·have := adj_ne hnd2 hx hy
   simpa using this
  ·exact ⟨U.length + 1 - (v + 2),by omega,v + 2,by rw [w64] <;> omega,by omega,.inl (by omega),rfl,rfl⟩
 ·refine Count_spec (k := 0) h1 rfl reads_slo hUl fun A3 h3 => ?_
  simp only [onSome_some,add_at,Nat.zero_add]
  refine ld_P (i := 4) h3 rfl rfl ?_
  obtain ⟨mb,g,st,gl,hB,hGO,hgl,h4⟩ := Bud.openH (h3.pick 2 rfl)
  obtain ⟨g1,g2,g3⟩ := frF_ok hB
  have hgu := part_len g1 g2 hGO hpart hN.1 g3
  have h4 : Own (budL c.b mb g st gl (c.N - 1 - u) ++ SlO s 3 (usV U) :: RamW c.r c.N [] W :: TreeS c.t [⟨-1,c.N - 1,u,0,true⟩] :: At c.m (macC c) :: MapI c.sp .i64 sps :: TlbS c.tl ls :: PcS c.tg z :: (ol ++ R)) A3 := h4
  refine Given_spec h4 hGO (by omega) fun s2 ss A4 hss hsl2 h5 => ?_
  have hsslen := hss.length_eq
  refine ⟨fun x y m A' => ∃ i : Nat,y = i ∧ x = i ∧ i ≤ ss.length ∧ ss.length - i = m ∧ A' = A4,⟨_,0,rfl,rfl,by omega,rfl,rfl⟩,?_⟩
  intro x y m A5 ⟨i,i1,i2,i3,i4,i5⟩
  subst i1 i2 i4 i5
  refine bsel_in (fun q2 => ?_) fun q2 => ?_
  ·have q2 : i < ss.length := by simp at q2;omega
   obtain ⟨a,ha⟩ : ∃ a,ss[i]? = some a := ⟨ss[i],by simp [q2]⟩
   obtain ⟨bb,o2,q4,q5⟩ := sl_cell h5 (i := 0) rfl (j := i) (v := .int .i64 a) (by simp [ha])
   rw [q4]
   refine inB_in (by omega) (by omega) ⟨a,by rw [add_at];simpa using q5,?_⟩
   refine ld_P (i := (13 + 3) + 1) h5 (by rw [List.getElem?_cons_succ];exact at_bud rfl) rfl ?_
   refine Order_spec (Bud.fore h5) (hss.mem_iff.1 (List.mem_of_getElem? ha)) (bsel_f rfl ?_)
   exact ⟨ss.length - (i + 1),by omega,i + 1,by rw [w64] <;> omega,by
    have : IntKind.wrap .i64 ((1 : Int) * 2 ^ (min (Int.toNat 0) 64)) = 1 := rfl
    rw [this,w64] <;> omega,by omega,rfl,rfl⟩
  ·have q2 : i = ss.length := by simp at q2;omega
   have h6 := Bud.closeH hB hGO hgl h5.tail
   have h7 : Own (SlO s 3 (usV U) :: MacL c F G W u ls z sps (ol ++ R)) A5 :=
    Own.back (l := SlO s 3 (usV U) :: MacL c F G W u ls z sps (ol ++ R)) (P := Bud c.b F G (c.N - 1 - u)) (P' := Bud c.b F G (c.N - 1 - u)) 2 rfl h6
   refine ⟨fun A' => Own (SlO s 3 (usV U) :: MacL c F G W u ls z sps (ol ++ R)) A',fun A6 h8 => ?_,?_⟩
   ·refine ld_P (i := 4) h8 rfl rfl ?_
    have h9 : Own (TreeS c.t [⟨-1,c.N - 1,u,0,true⟩] :: SlO s 3 (usV U) :: RamW c.r c.N [] W :: Bud c.b F G (c.N - 1 - u) :: At c.m (macC c) :: MapI c.sp .i64 sps :: TlbS c.tl ls :: PcS c.tg z :: (ol ++ R)) A6 := h8.pick 3 rfl
    refine Live_spec h9 rfl fun s3 A7 k1 k2 h10 => ?_
    refine ⟨fun x y m A' => (x = 0 ∧ y = 0 ∧ m = 1 ∧ A' = A7) ∨ (x = u ∧ y = 1 ∧ m = 0 ∧ A' = A7),⟨_,.inl ⟨rfl,rfl,rfl,rfl⟩⟩,?_⟩
    intro x y m A8 hinv
    rcases hinv with ⟨rfl,rfl,rfl,rfl⟩ | ⟨rfl,rfl,rfl,rfl⟩
    ·refine bsel_t (by simp [k1]) ?_
     obtain ⟨bb,o2,q4,q5⟩ := rd_cell h10 (i := 0) rfl reads_slo (j := 0) (v := .int .i64 0) rfl
     rw [q4]
     refine inB_in (by omega) (by omega) ⟨0,by rw [add_at];simpa using q5,?_⟩
     refine ld_P (i := 5) h10 rfl rfl ?_
     refine Get_head (i := 0) h10.swap rfl rfl ?_
     exact ⟨0,by omega,.inr ⟨by show IntKind.wrap .i64 (0 + u) = u;rw [w64] <;> omega,by rw [w64] <;> omega,rfl,rfl⟩⟩
    ·refine bsel_f (by simp [k1]) (bsel_f (by simp;omega) ?_)
     refine hk A8 ?_
     have h11 : Own (TreeS c.t [⟨-1,c.N - 1,x,0,true⟩] :: RamW c.r c.N [] W :: Bud c.b F G (c.N - 1 - x) :: At c.m (macC c) :: MapI c.sp .i64 sps :: TlbS c.tl ls :: PcS c.tg z :: (ol ++ R)) A8 := h10.tail.cons fun C hC => hC.tail
     exact Own.back (l := MacL c F G W x ls z sps (ol ++ R)) (P := TreeS c.t [⟨-1,c.N - 1,x,0,true⟩]) (P' := TreeS c.t [⟨-1,c.N - 1,x,0,true⟩]) 2 rfl h11
   ·refine Spaces_spec (i := 4) (j := 5) h7 rfl rfl (by omega) hsl.2 fun s4 is A6 hp4 hs4 h8 => ?_
    refine bsel_in (fun q3 => bsel_f ?_ h8.tail) fun q3 => h8.tail
    have q3 : 0 < s4.len := by simpa using q3
    have hne : sps ≠ [] := fun e => by
     rw [e] at hp4
     have := hp4.length_eq
     simp at this
     rw [this] at hs4
     simp at hs4
     omega
    have k3 := hlen hne
    obtain ⟨k4,_⟩ := cnt_kinds U1 hkd
    rw [cntU_perm hp,cntU_perm hp,cntU_perm hp,cntU_app,cntU_app,cntU_app,cnt_fu fl 1 (by omega),cnt_fu fl 2 (by omega),cnt_fu fl 3 (by omega)]
    have e1 : IntKind.wrap .i64 (((cntU U1 1 + 0 : Nat) : Int) + ((cntU U1 2 + 0 : Nat) : Int)) = ((cntU U1 1 + cntU U1 2 : Nat) : Int) := by rw [w64] <;> omega
    rw [e1,w64 (by omega) (by omega)]
    simp
    omega
end Go.Dn
