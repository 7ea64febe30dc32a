/- What the proof stands on: Uses, Look, Free. -/
import Derived.Test.YtaafkchlmndbkaaGreatUseD
import Derived.Test.YtaafkchlmndbkaaGreatLend2
/- What frames are for: lists of uses that grow; the entries of a table. -/
namespace Go.Dn
open Go.Proofs
def usV (U : List Us) : List Value := U.flatMap useE
theorem usV_len : ∀ U : List Us,(usV U).length = U.length * 3
 | [] => rfl
 | y :: L => by
  have := usV_len L
  unfold usV at this ⊢
  rw [List.flatMap_cons,List.length_append,this,List.length_cons];simp [useE];omega
theorem usV_app (a b : List Us) : usV (a ++ b) = usV a ++ usV b := List.flatMap_append
theorem usV_nil {U : List Us} (h : usV U = []) : U = [] := by
 have := usV_len U
 rw [h] at this
 exact List.length_eq_zero_iff.1 (by simp at this;omega)
theorem usV_one {U : List Us} {v : Value} (h : v ∈ usV U) : v.oneCell' = true := by
 obtain ⟨d,_,hd⟩ := List.mem_flatMap.1 h
 simp [useE] at hd
 rcases hd with rfl | rfl | rfl <;> rfl
theorem usV_at : ∀ {U : List Us} {v : Nat} {y : Us} {c : Nat} {z : Value},U[v]? = some y→(useE y)[c]? = some z→(usV U)[v * 3 + c]? = some z
 | [],v,a,c,x,h,_ => by simp at h
 | b :: r,0,a,c,x,h,hc => by
  simp at h;subst h
  have hlt : c < 3 := (List.getElem?_eq_some_iff.1 hc).1
  unfold usV
  rw [List.flatMap_cons,List.getElem?_append_left (by simp [useE];omega),Nat.zero_mul,Nat.zero_add]
  exact hc
 | b :: r,v + 1,a,c,x,h,hc => by
  have h : r[v]? = some a := by simpa using h
  unfold usV
  rw [List.flatMap_cons,List.getElem?_append_right (by simp [useE];omega)]
  have : (v + 1) * 3 + c - (useE b).length = v * 3 + c := by simp [useE];omega
  rw [this]
  exact usV_at h hc
def LkS (lk m : Nat) (U : List Us) : SP := fun B => ∃ s : Sl,(s.a = none→U = []) ∧ Own [At lk [.pointer (some ⟨m,0,none⟩),.slice s.a s.len s.cap],SlO s 3 (usV U)] B
variable {A : AH} {l R : List SP} {c : Mb} {u : Int} {F G : Int→Prop} {W : Int→Int→Int} {ls : List Ln} {z : PcZ} {sps : List (Int × Value)} {lk m bx : Nat} {U : List Us}
theorem LkS.openH (h : Own (LkS lk m U :: R) A) : ∃ s : Sl,(s.a = none→U = []) ∧ Own (At lk [.pointer (some ⟨m,0,none⟩),.slice s.a s.len s.cap] :: SlO s 3 (usV U) :: R) A := by
 obtain ⟨s,h⟩ := Own.ex h
 obtain ⟨h1,h⟩ := Own.pure h
 exact ⟨s,h1,Own.flat h⟩
theorem LkS.closeH {s : Sl} (h1 : s.a = none→U = []) (h : Own (At lk [.pointer (some ⟨m,0,none⟩),.slice s.a s.len s.cap] :: SlO s 3 (usV U) :: R) A) : Own (LkS lk m U :: R) A :=
 (Own.app (l := [At lk [.pointer (some ⟨m,0,none⟩),.slice s.a s.len s.cap],SlO s 3 (usV U)]) h).imp fun _ hB => ⟨s,h1,hB⟩
theorem lk_m {K : Option Addr→Prop} (h : Own (LkS lk m U :: R) A) (hk : K (some ⟨m,0,none⟩)) : aP ⟨lk,0,none⟩ A K := by
 obtain ⟨s,_,h⟩ := LkS.openH h
 exact ld_P (i := 0) h rfl rfl hk
theorem use_add {k : Nat} {x y w : Int} {Q : AP} (h : Own (LkS lk m U :: R) A) (e : R[k]? = some (At bx [.pointer (some ⟨lk,0,none⟩)])) (hb : U.length < 1000000) (hk : ∀ A',Own (LkS lk m (U ++ [(x,y,w)]) :: R) A'→Q A') :
  aS ⟨lk,1,none⟩ A fun s6 => newA A (.cells #[.int .i64 x,.int .i64 y,.int .i64 w] 26) fun b7 h8 => (aS ⟨lk,1,none⟩ h8 fun s9 => ((.slice s9.a s9.len s9.cap : Value) = .slice s6.a s6.len s6.cap)) ∧
   (aP ⟨bx,0,none⟩ h8 fun pt11 => ((.pointer pt11 : Value) = .pointer (some ⟨lk,0,none⟩))) ∧ (aP ⟨bx,0,none⟩ h8 fun pt13 => ((.pointer pt13 : Value) = .pointer (some ⟨lk,0,none⟩))) ∧
   (apA 3 24 #[.int .i64 (0 : Int),.int .i64 (0 : Int),.int .i64 (0 : Int)] 26 s6 (Sl.mk (some ⟨b7,0,none⟩) 1 1) h8 fun s14 h15 => (aP ⟨bx,0,none⟩ h15 fun pt17 => ((.pointer pt17 : Value) = .pointer (some ⟨lk,0,none⟩))) ∧
    aC ⟨lk,1,none⟩ (.slice s14.a s14.len s14.cap) h15 Q) := by
 obtain ⟨s,hs,h⟩ := LkS.openH h
 have hl : s.len = U.length := by
  obtain ⟨B,_,hB⟩ := h.tail.sat
  have := hB.1.1
  rw [usV_len] at this
  omega
 refine ld_S (i := 0) h rfl rfl (new_C (cs := useE (x,y,w)) h fun b7 A1 h1 => ?_)
 have e3 : ∀ {P1 P2 P3 : SP},(P1 :: P2 :: P3 :: R)[k + 3]? = some (At bx [.pointer (some ⟨lk,0,none⟩)]) := fun {P1 P2 P3} => by simpa using e
 refine ⟨ld_S (i := 1) h1 rfl rfl rfl,ld_P (i := k + 3) h1 e3 rfl rfl,ld_P (i := k + 3) h1 e3 rfl rfl,?_⟩
 have h2 : Own (SlO s 3 (usV U) :: At b7 (useE (x,y,w)) :: At lk [.pointer (some ⟨m,0,none⟩),.slice s.a s.len s.cap] :: R) A1 := h1.perm (by
  refine List.Perm.trans (List.Perm.cons _ (List.Perm.swap _ _ _)) ?_
  exact List.Perm.swap _ _ _)
 refine ap_reads (i := 0) h2 rfl (reads_at (n := 1) (sz := 3) (cs := useE (x,y,w)) (rest := []) rfl) (fun g => nomatch g) (fun g => by rw [hs g];rfl) rfl (fun v hv => usV_one (U := [(x,y,w)]) (by simpa [usV] using hv)) ⟨by simp only [hl];omega,by simp only [hl];omega⟩ fun s' A2 j1 j2 h3 => ?_
 refine ⟨ld_P (i := k + 3) h3 e3 rfl rfl,?_⟩
 refine st_C (i := 2) h3 rfl rfl rfl fun A3 h4 => hk A3 ?_
 have h4 : Own (SlO s' 3 (usV U ++ useE (x,y,w)) :: At b7 (useE (x,y,w)) :: At lk [.pointer (some ⟨m,0,none⟩),.slice s'.a s'.len s'.cap] :: R) A3 := h4
 have h5 : Own (At lk [.pointer (some ⟨m,0,none⟩),.slice s'.a s'.len s'.cap] :: SlO s' 3 (usV U ++ useE (x,y,w)) :: R) A3 := (h4.cons fun C hC => hC.tail).swap
 refine LkS.closeH (fun g => ?_) (by rw [usV_app];simpa [usV] using h5)
 have := j2 g
 simp [useE] at this
def entsU (w : Int→Int) (g : Nat→Int→List Us) : Nat→List Us
 | 0 => []
 | j + 1 => entsU w g j ++ if bitZ (w j) 0 then g j (frameZ (w j)) else []
theorem entsU_nil {w : Int→Int} {g : Nat→Int→List Us} : ∀ {n : Nat},(∀ j : Nat,j < n→bitZ (w j) 0 = true→g j (frameZ (w j)) = [])→entsU w g n = []
 | 0,_ => rfl
 | n + 1,h => by
  rw [entsU,entsU_nil fun j hj => h j (by omega)]
  split
  ·rename_i e;exact h n (by omega) e
  ·rfl
theorem entsU_one {w : Int→Int} {g : Nat→Int→List Us} {k : Nat} (hb : bitZ (w k) 0 = true) : ∀ {n : Nat},k < n→(∀ j : Nat,j < n→j ≠ k→bitZ (w j) 0 = true→g j (frameZ (w j)) = [])→entsU w g n = g k (frameZ (w k))
 | 0,h,_ => by omega
 | n + 1,h,hn => by
  rw [entsU]
  by_cases e : k = n
  ·subst e
   rw [entsU_nil fun j hj => hn j (by omega) (by omega),if_pos hb];rfl
  ·rw [entsU_one hb (by omega) fun j hj => hn j (by omega)]
   split
   ·rename_i q;rw [hn n (by omega) (fun q => e q.symm) q];simp
   ·simp
theorem entsU_len {w : Int→Int} {g : Nat→Int→List Us} {a : Nat} : ∀ {n : Nat},a ≤ n→(entsU w g a).length ≤ (entsU w g n).length
 | 0,h => by
  have : a = 0 := by omega
  rw [this];exact Nat.le_refl _
 | n + 1,h => by
  by_cases e : a = n + 1
  ·rw [e];exact Nat.le_refl _
  ·have := entsU_len (w := w) (g := g) (a := a) (n := n) (by omega)
   rw [entsU,List.length_append];omega
abbrev SeeT := Int→Bool→Bool→Bool→Bool→Bool→Bool→Bool→Bool→Int→Option Addr→(AH→Prop)→AP
set_option maxRecDepth 20000 in
theorem ent_spec {see : SeeT} {fr : Int} {p2 : Option Addr} {g : Nat→Int→List Us} {Q : AH→Prop} (h : Own (LkS lk c.m U :: MacL c F G W u ls z sps R) A) (hf : hasF c.N [] fr = true) (hU : U.length + (entsU (W fr) g 512).length ≤ 1000000)
  (hsee : ∀ (j : Nat) U' A',j < 512→bitZ (W fr j) 0 = true→U'.length + (g j (frameZ (W fr j))).length ≤ 1000000→Own (LkS lk c.m U' :: MacL c F G W u ls z sps R) A'→∀ b1 b2 b3 b4 b5 b6 b7 (Q' : AH→Prop),(∀ A'',Own (LkS lk c.m (U' ++ g j (frameZ (W fr j))) :: MacL c F G W u ls z sps R) A''→Q' A'') →
   see j true b1 b2 b3 b4 b5 b6 b7 (frameZ (W fr j)) p2 Q' A')
  (hk : ∀ A',Own (LkS lk c.m (U ++ entsU (W fr) g 512) :: MacL c F G W u ls z sps R) A'→Q A') : qdb_G qcl_A qcm_A see (some ⟨lk,0,none⟩) fr p2 Q A := by
 unfold qdb_G
 refine ⟨fun x m A' => ∃ j : Nat,x = j ∧ j ≤ 512 ∧ 512 - j = m ∧ Own (LkS lk c.m (U ++ entsU (W fr) g j) :: MacL c F G W u ls z sps R) A',⟨_,0,rfl,by omega,rfl,by simpa [entsU] using h⟩,?_⟩
 intro x m A1 ⟨j,e1,e2,e3,h1⟩
 subst e1 e3
 refine bsel_in (fun q => ?_) fun q => ?_
 ·have q : j < 512 := by simp at q;omega
  refine ⟨fun A' => Own (LkS lk c.m (U ++ entsU (W fr) g (j + 1)) :: MacL c F G W u ls z sps R) A',fun A2 h2 => ⟨512 - (j + 1),by omega,j + 1,by rw [w64] <;> omega,by omega,rfl,h2⟩,?_⟩
  simp only [onSome_some]
  refine lk_m h1 ?_
  simp only [onSome_some]
  refine ld_P (i := 4) h1 rfl rfl ?_
  have h2 : Own (RamW c.r c.N [] W :: LkS lk c.m (U ++ entsU (W fr) g j) :: (MacL c F G W u ls z sps R).tail) A1 := Own.swap h1
  have hU2 := word_u h2 (t := fr) (i := j) (has_range hf (RamW.openH h2).choose_spec.1.1.hi).1 ⟨by omega,by omega⟩
  obtain ⟨M,⟨k1,k2⟩,hh⟩ := RamW.openH h2
  have hr := has_range hf k1.hi
  have hfr := k1.hi
  rw [place_wrap ⟨hr.1,by omega⟩ ⟨by omega,by omega⟩]
  refine Load_spec (n := 8) (i := 0) hh rfl k1.holes ⟨k1.lo,k1.hi⟩ (by omega) ⟨by omega,by omega⟩ ?_
  have hok : okA c.N [] (fr * 4096 + 8 * (j : Int)) ((8 : Nat) : Int) = true := (okA_word ⟨by omega,by omega⟩).trans hf
  rw [hok]
  simp only [↓reduceIte]
  have hw : le M (fr * 4096 + 8 * (j : Int)) 8 = W fr j := (k2 fr j hr.1 (by omega) (by omega)).symm
  rw [hw]
  refine Unpack_spec hU2 hh fun A2 hA => ?_
  have h3 : Own (LkS lk c.m (U ++ entsU (W fr) g j) :: MacL c F G W u ls z sps R) A2 := Own.swap (RamW.closeH k1 k2 hA)
  refine bsel_in (fun b => ?_) fun b => ?_
  ·rw [b]
   have hle : (entsU (W fr) g (j + 1)).length ≤ (entsU (W fr) g 512).length := entsU_len (by omega)
   have he : entsU (W fr) g (j + 1) = entsU (W fr) g j ++ g j (frameZ (W fr j)) := by rw [entsU,if_pos b]
   rw [he,List.length_append] at hle
   refine hsee j _ A2 q b (by rw [List.length_append];omega) h3 _ _ _ _ _ _ _ _ fun A3 h4 => ?_
   rw [he,← List.append_assoc];exact h4
  ·rw [entsU,if_neg (by rw [b];simp),List.append_nil];exact h3
 ·have : j = 512 := by simp at q;omega
  subst this
  exact hk A1 h1
end Go.Dn
/- The tables of the kernel and of a space, gone through. -/
namespace Go.Dn
open Go.Proofs
variable {A : AH} {l R : List SP} {c : Mb} {u : Int} {F G : Int→Prop} {W : Int→Int→Int} {ls : List Ln} {z : PcZ} {sps : List (Int × Value)} {lk m bx p : Nat} {U : List Us} {O X : SP} {root : Int} {s : Sl} {regs : List Reg} {lent : List (Int × Int)}
theorem Lk.push (h : Own (X :: LkS lk m U :: MacL c F G W u ls z sps R) A) : Own (LkS lk m U :: MacL c F G W u ls z sps (X :: R)) A := by
 refine h.perm ?_
 exact (List.perm_middle (l₁ := [LkS lk m U,RamW c.r c.N [] W,Bud c.b F G (c.N - 1 - u),TreeS c.t [⟨-1,c.N - 1,u,0,true⟩],At c.m (macC c),MapI c.sp .i64 sps,TlbS c.tl ls,PcS c.tg z]) (a := X) (l₂ := R)).symm
theorem Lk.push1 (h : Own (X :: LkS lk m U :: MacL c F G W u ls z sps (O :: R)) A) : Own (LkS lk m U :: MacL c F G W u ls z sps (O :: X :: R)) A := (Lk.push h).cons fun _ h => MacL.mapR (fun _ h => h.swap) h
theorem Lk.drop (h : Own (LkS lk m U :: MacL c F G W u ls z sps (X :: R)) A) : Own (LkS lk m U :: MacL c F G W u ls z sps R) A := h.cons fun _ h => MacL.mapR (fun _ h => h.tail) h
theorem Lk.drop1 (h : Own (LkS lk m U :: MacL c F G W u ls z sps (O :: X :: R)) A) : Own (LkS lk m U :: MacL c F G W u ls z sps (O :: R)) A := h.cons fun _ h => MacL.mapR (fun _ h => h.cons fun _ h => h.tail) h
def useK (W : Int→Int→Int) (top : Int) : List Us := (top,1,0) :: entsU (W top) (fun _ f => [(f,1,0)]) 512
set_option maxRecDepth 20000 in
theorem kernel_spec {top : Int} {Q : AH→Prop} (h : Own (LkS lk c.m U :: MacL c F G W u ls z sps R) A) (hf : hasF c.N [] top = true) (hU : U.length + (useK W top).length ≤ 1000000)
  (hk : ∀ A',Own (LkS lk c.m (U ++ useK W top) :: MacL c F G W u ls z sps R) A'→Q A') : qdc_A (some ⟨lk,0,none⟩) top Q A := by
 have hU2 : U.length + 1 + (entsU (W top) (fun _ f => [(f,(1 : Int),(0 : Int))]) 512).length ≤ 1000000 := by unfold useK at hU;rw [List.length_cons] at hU;omega
 unfold qdc_A qdc_G
 refine new_C (cs := [.pointer (some ⟨lk,0,none⟩)]) h fun bx A1 h1 => ?_
 have h1 := Lk.push h1
 refine ld_P (i := 8) h1 rfl rfl (ld_P (i := 8) h1 rfl rfl ?_)
 simp only [onSome_some,add_at,Nat.zero_add]
 refine use_add (k := 7) h1 rfl (by omega) fun A2 h2 => ?_
 refine ld_P (i := 8) h2 rfl rfl ?_
 refine ent_spec (see := qda_A) (g := fun _ f => [(f,1,0)]) h2 hf (by rw [List.length_append];exact hU2) (fun j U' A3 _ _ hb h3 b1 b2 b3 b4 b5 b6 b7 Q' hQ => ?_) fun A3 h3 => hk A3 ?_
 ·unfold qda_A
  simp only [onSome_some]
  refine ld_P (i := 8) h3 rfl rfl (ld_P (i := 8) h3 rfl rfl ?_)
  simp only [onSome_some,add_at,Nat.zero_add]
  exact use_add (k := 7) h3 rfl (by simp at hb;omega) fun A4 h4 => hQ A4 h4
 ·have h4 := Lk.drop h3
  unfold useK
  rw [List.append_assoc,List.singleton_append] at h4
  exact h4
def useT (W : Int→Int→Int) (regs : List Reg) (id : Int) : Nat→Int→Int→List Us
 | 0,_,_ => []
 | k + 1,fr,q => (fr,2,id) :: entsU (W fr) (fun j e => if k = 3 ∧ j = 256 then [] else if k = 0 then (match findR regs (q * 512 + j) with | some y => if y.k = 0 then [(e,3,id)] else [] | none => []) else useT W regs id k e (q * 512 + j)) 512
def okT (W : Int→Int→Int) (N : Int) : Nat→Int→Int→Prop
 | 0,_,_ => True
 | k + 1,fr,q => hasF N [] fr = true ∧ (0 ≤ q ∧ q < 67108864) ∧ ∀ j : Nat,j < 512→bitZ (W fr j) 0 = true→¬ (k = 3 ∧ j = 256)→k = 0 ∨ okT W N k (frameZ (W fr j)) (q * 512 + j)
theorem one_nil (h : Own l A) {i : Nat} (e : l[i]? = some (OneS p 0 root s regs lent)) : s.a = none→regs = [] := fun g => by
 obtain ⟨lm,h1⟩ := OneS.openH (h.pick i e)
 have h2 : Own (SlO s 6 (regC regs) :: At p [.int .i64 0,.int .i64 root,.slice s.a s.len s.cap,.map (some lm)] :: MapI lm .i64 (ivs lent) :: l.eraseIdx i) A := Own.swap h1
 obtain ⟨B,_,hB⟩ := h2.sat
 obtain ⟨⟨k1,k2⟩,k3⟩ := hB
 rcases k3 with k3 | ⟨b,_,k3,_⟩
 ·have : s.len = 0 := by omega
  rw [this] at k1
  exact regC_nil (List.length_eq_zero_iff.1 (by omega))
 ·rw [g] at k3;cases k3
theorem Regions_spec {id : Int} {Q : Sl→AH→Prop} (h : Own (LkS lk c.m U :: MacL c F G W u ls z sps (OneS p 0 root s regs lent :: R)) A) (hs : sps.lookup id = some (ptrV p)) (hrl : regs.length ≤ 64)
  (hk : ∀ s' A',(s'.a = none→regs = [])→Own (SlO s' 6 (regC regs) :: LkS lk c.m U :: MacL c F G W u ls z sps (OneS p 0 root s regs lent :: R)) A'→Q s' A') : qdf_A (some ⟨c.m,0,none⟩) id Q A := by
 unfold qdf_A qdf_G
 simp only [onSome_some,add_at,Nat.zero_add]
 refine ld_M (i := 4) h rfl rfl (lk_M (i := 5) h rfl ?_)
 rw [hs]
 refine ⟨some ⟨p,0,none⟩,rfl,bsel_t rfl ?_⟩
 simp only [onSome_some,add_at,Nat.zero_add]
 refine one_sl (i := 8) h rfl ?_
 exact CloneG_spec (k := 8) h rfl reads_one (by omega) (one_nil h (i := 8) rfl) fun s' A1 _ j2 h1 => hk s' A1 j2 h1
set_option maxRecDepth 20000 in
theorem tables_spec {id : Int} (hs : sps.lookup id = some (ptrV p)) (hrl : regs.length ≤ 64) : ∀ (k : Nat) {R : List SP} {U : List Us} {fr q : Int} {Q : AH→Prop} {A : AH},0 < k→k ≤ 4→Own (LkS lk c.m U :: MacL c F G W u ls z sps (OneS p 0 root s regs lent :: R)) A→okT W c.N k fr q →
  U.length + (useT W regs id k fr q).length ≤ 1000000→(∀ A',Own (LkS lk c.m (U ++ useT W regs id k fr q) :: MacL c F G W u ls z sps (OneS p 0 root s regs lent :: R)) A'→Q A')→qdg_A k (some ⟨lk,0,none⟩) id fr k q Q A
 | k + 1,R,U,fr,q,Q,A,_,hk4,h,⟨hf,hq,hch⟩,hU,hk => by
  unfold useT at hU hk
  generalize hg : (fun (j : Nat) (e : Int) => if k = 3 ∧ j = 256 then ([] : List Us) else if k = 0 then (match findR regs (q * 512 + j) with | some y => if y.k = 0 then [(e,(3 : Int),id)] else [] | none => []) else useT W regs id k e (q * 512 + j)) = g at hU hk
  rw [List.length_cons] at hU
  show qdg_G (audit_looker_entries_s3_M (qdg_A k)) (some ⟨lk,0,none⟩) id fr ((k + 1 : Nat) : Int) q Q A
  unfold qdg_G
  refine new_C (cs := [.pointer (some ⟨lk,0,none⟩)]) h fun b1 A1 h1 => new_C (cs := [.int .i64 id]) (Lk.push1 h1) fun b3 A2 h2 => new_C (cs := [.int .i64 ((k + 1 : Nat) : Int)]) (Lk.push1 h2) fun b5 A3 h3 => new_C (cs := [.int .i64 q]) (Lk.push1 h3) fun b7 A4 h4 => ?_
  have h4 := Lk.push1 h4
  refine ld_P (i := 12) h4 rfl rfl (ld_P (i := 12) h4 rfl rfl ?_)
  simp only [onSome_some,add_at,Nat.zero_add]
  have hid : aI .i64 ⟨b3,0,none⟩ A4 (fun n => n = id) := ld_I (i := 11) h4 rfl rfl rfl
  have hadd := use_add (k := 11) (x := fr) (y := 2) (w := id) (Q := fun h23 => aP ⟨b1,0,none⟩ h23 fun pt24 => audit_looker_entries_s3_M (qdg_A k) pt24 fr (some ⟨b5,0,none⟩) (some ⟨b1,0,none⟩) (some ⟨b3,0,none⟩) (some ⟨b7,0,none⟩) (fun h25 => Q h25) h23) h4 rfl (by omega) fun A5 h5 => by
   refine ld_P (i := 12) h5 rfl rfl ?_
   refine ent_spec (see := fun x a0 a1 a2 a3 a4 a5 a6 a7 n _ Q h => audit_looker_tables_1_M (qdg_A k) x a0 a1 a2 a3 a4 a5 a6 a7 n (some ⟨b5,0,none⟩) (some ⟨b1,0,none⟩) (some ⟨b3,0,none⟩) (some ⟨b7,0,none⟩) Q h) (p2 := none) (g := g) h5 hf (by simp;omega) (fun j U' A6 hj hb hlen h6 _ _ _ _ _ _ _ Q' hQ => ?_) fun A6 h6 => hk A6 ?_
   ·show qdh_G _ _ _ _ _ _ _ _ _ _ _ _ _ _ _ _ _ _ _
    unfold qdh_G
    have hc := hch j hj hb
    simp only [onSome_some]
    refine ld_I (i := 10) h6 rfl rfl ?_
    refine bsel_in (fun c4 => bsel_in (fun c5 => ?_) fun c5 => ?_) fun c4 => ?_
    ·have e4 : k = 3 := by simp at c4;omega
     have e5 : j = 256 := by simp at c5;omega
     have hz : g j (frameZ (W fr j)) = [] := by rw [← hg];simp only [e4,e5,and_self,if_true]
     refine hQ A6 ?_
     rw [hz,List.append_nil]
     exact h6
    all_goals
     have hne : ¬ (k = 3 ∧ j = 256) := fun e => by
      first
      | (simp at c5;omega)
      | (simp at c4;omega)
     have hc := hc hne
     have hgj : ∀ e,g j e = if k = 0 then (match findR regs (q * 512 + j) with | some y => if y.k = 0 then [(e,(3 : Int),id)] else [] | none => []) else useT W regs id k e (q * 512 + j) := fun e => by rw [← hg];simp only [if_neg hne]
     rw [hgj] at hQ hlen
     refine ld_I (i := 10) h6 rfl rfl ?_
     refine bsel_in (fun d => ?_) fun d => ?_
     ·have d : 0 < k := by simp at d;omega
      rw [if_neg (by omega)] at hQ hlen
      refine ld_P (i := 12) h6 rfl rfl (ld_I (i := 11) h6 rfl rfl (ld_I (i := 10) h6 rfl rfl (ld_I (i := 9) h6 rfl rfl ?_)))
      rw [or_front hq.1 hq.2 (by omega) (by omega),w64 (by omega) (by omega),show ((k + 1 : Nat) : Int) - 1 = (k : Int) by omega]
      exact tables_spec hs hrl k d (by omega) h6 (hc.resolve_left (by omega)) hlen hQ
     ·have d : k = 0 := by simp at d;omega
      rw [if_pos d] at hQ hlen
      refine ld_P (i := 12) h6 rfl rfl ?_
      simp only [onSome_some]
      refine lk_m h6 (ld_I (i := 11) h6 rfl rfl (ld_I (i := 9) h6 rfl rfl ?_))
      refine Regions_spec h6 hs hrl fun s' A7 hs' h7 => ⟨ld_I (i := 10) h7 rfl rfl rfl,?_⟩
      rw [or_front hq.1 hq.2 (by omega) (by omega)]
      refine Find_spec (k := 0) h7 rfl reads_slo (by omega) (fun hfn => ?_) fun y hfy _ _ _ => ?_
      ·rw [hfn] at hQ
       refine ⟨fun b A8 => b = false ∧ A8 = A7,fun b A8 e => ?_,bsel_f rfl ⟨rfl,rfl⟩⟩
       obtain ⟨rfl,rfl⟩ := e
       rw [List.append_nil] at hQ
       exact bsel_f rfl (hQ A8 h7.tail)
      ·rw [hfy] at hQ hlen
       refine ⟨fun b A8 => b = (y.k == 0) ∧ A8 = A7,fun b A8 e => ?_,bsel_t rfl ⟨rfl,rfl⟩⟩
       obtain ⟨rfl,rfl⟩ := e
       refine bsel_in (fun yk => ?_) fun yk => ?_
       ·have yk : y.k = 0 := by simpa using yk
        simp only [if_pos yk] at hQ hlen
        have h8 := h7.tail
        refine ld_P (i := 12) h8 rfl rfl (ld_P (i := 12) h8 rfl rfl ?_)
        simp only [onSome_some,add_at,Nat.zero_add]
        obtain ⟨n,n1,n2⟩ : aI .i64 ⟨b3,0,none⟩ A8 (fun n => n = id) := ld_I (i := 11) h8 rfl rfl rfl
        subst n2
        obtain ⟨ss,q1,q2⟩ := use_add (k := 11) (x := frameZ (W fr j)) (y := 3) (w := n) (Q := Q') h8 rfl (by simp at hlen;omega) fun A9 h9 => hQ A9 h9
        exact ⟨ss,q1,n,n1,q2⟩
       ·have yk : ¬ y.k = 0 := by simpa using yk
        simp only [if_neg yk,List.append_nil] at hQ
        exact hQ A8 h7.tail
   ·have h7 := Lk.drop1 (Lk.drop1 (Lk.drop1 (Lk.drop1 h6)))
    rw [List.append_assoc,List.singleton_append] at h7
    exact h7
  obtain ⟨n,n1,n2⟩ := hid
  subst n2
  obtain ⟨ss,q1,q2⟩ := hadd
  exact ⟨ss,q1,n,n1,q2⟩
end Go.Dn
/- The free frames in a list; what buddies tell of their blocks; spaces; uses put in order. -/
namespace Go.Dn
open Go.Proofs
def blk (o : Nat) (a : Int) : List Int := (List.range (2 ^ o)).map fun (t : Nat) => a + (t : Int)
def frF (st : Nat→List Int) : Nat→List Int
 | 0 => []
 | o + 1 => frF st o ++ (st o).flatMap (blk o)
def fu (f : Int) : Us := (f,0,0)
theorem blk_mem {o : Nat} {a x : Int} : x ∈ blk o a ↔ a ≤ x ∧ x < a + 2 ^ o := by
 unfold blk
 have e : ((2 ^ o : Nat) : Int) = 2 ^ o := by simp
 rw [List.mem_map]
 constructor
 ·rintro ⟨t,ht,rfl⟩
  have : t < 2 ^ o := by simpa using ht
  have : (t : Int) < ((2 ^ o : Nat) : Int) := by exact_mod_cast this
  rw [e] at this
  omega
 ·rintro ⟨h1,h2⟩
  refine ⟨(x - a).toNat,?_,by omega⟩
  rw [List.mem_range]
  have : (((x - a).toNat : Nat) : Int) < ((2 ^ o : Nat) : Int) := by rw [e];omega
  exact_mod_cast this
theorem blk_nodup {o : Nat} {a : Int} : (blk o a).Nodup := by
 unfold blk
 refine List.Pairwise.map _ (fun x y (h : x ≠ y) => ?_) List.nodup_range
 omega
theorem blk_len {o : Nat} : ∀ l : List Int,(l.flatMap (blk o)).length = l.length * 2 ^ o
 | [] => by simp
 | a :: l => by
  rw [List.flatMap_cons,List.length_append,blk_len l,List.length_cons,Nat.add_mul]
  simp [blk];omega
variable {A : AH} {l R : List SP} {b : Nat} {mb : Nat→Nat} {g : Nat} {st : Nat→List Int} {gl : List Int} {n : Int} {F : Int→Prop} {c : Mb} {sps : List (Int × Value)} {s : Sl}
theorem frF_mem : ∀ {k : Nat} {x : Int},x ∈ frF st k ↔ ∃ o a,o < k ∧ a ∈ st o ∧ a ≤ x ∧ x < a + 2 ^ o
 | 0,x => by simp [frF]
 | k + 1,x => by
  rw [frF,List.mem_append,frF_mem,List.mem_flatMap]
  constructor
  ·rintro (⟨o,a,h1,h2⟩ | ⟨a,h1,h2⟩)
   ·exact ⟨o,a,by omega,h2⟩
   ·exact ⟨k,a,by omega,h1,blk_mem.1 h2⟩
  ·rintro ⟨o,a,h1,h2,h3⟩
   by_cases e : o = k
   ·subst e;exact .inr ⟨a,h2,blk_mem.2 h3⟩
   ·exact .inl ⟨o,a,by omega,h2,h3⟩
theorem frF_len : ∀ k : Nat,((frF st k).length : Int) = total st k
 | 0 => rfl
 | k + 1 => by
  have := frF_len k
  rw [frF,total,List.length_append,blk_len,← this]
  simp
theorem frF_mono {k : Nat} : ∀ {m : Nat},k ≤ m→(frF st k).length ≤ (frF st m).length
 | 0,h => by
  have : k = 0 := by omega
  rw [this];exact Nat.le_refl _
 | m + 1,h => by
  by_cases e : k = m + 1
  ·rw [e];exact Nat.le_refl _
  ·have hm : k ≤ m := by omega
   have := frF_mono hm
   rw [frF,List.length_append];omega
theorem frF_nodup (h : BOK st F n) : ∀ {k : Nat},k ≤ 11→(frF st k).Nodup
 | 0,_ => List.nodup_nil
 | k + 1,hk => by
  rw [frF]
  refine List.nodup_append.2 ⟨frF_nodup h (by omega),List.pairwise_flatMap.2 ⟨fun a _ => blk_nodup,?_⟩,fun x hx y hy e => ?_⟩
  ·refine List.Pairwise.imp_of_mem (fun {a b} ha hb hne => ?_) (h.nd k (by omega))
   intro x hx y hy e
   subst e
   have h1 := blk_mem.1 hx
   have h2 := blk_mem.1 hy
   exact hne (h.apart k a k b x (by omega) (by omega) ha hb h1.1 h1.2 h2.1 h2.2).2
  ·subst e
   obtain ⟨o,a,h1,h2,h3,h4⟩ := frF_mem.1 hx
   obtain ⟨a',h5,h6⟩ := List.mem_flatMap.1 hy
   have h6 := blk_mem.1 h6
   have := (h.apart o a k a' x (by omega) (by omega) h2 h5 h3 h4 h6.1 h6.2).1
   omega
theorem frF_ok (h : BOK st F n) : (frF st 11).Nodup ∧ (∀ x,x ∈ frF st 11 ↔ F x) ∧ ((frF st 11).length : Int) = n := by
 refine ⟨frF_nodup h (Nat.le_refl _),fun x => ?_,by rw [frF_len,h.sum]⟩
 rw [frF_mem,h.cov]
 constructor
 ·rintro ⟨o,a,h1,h2⟩;exact ⟨o,a,by omega,h2⟩
 ·rintro ⟨o,a,h1,h2⟩;exact ⟨o,a,by omega,h2⟩
theorem SlAt.openA {sz : Nat} {cs : List Value} (h : Own (SlAt s sz cs :: R) A) (hne : cs ≠ []) : ∃ b pre rest,s.a = some ⟨b,pre.length,none⟩ ∧ s.len * sz = cs.length ∧ s.len ≤ s.cap ∧ Own (At b (pre ++ cs ++ rest) :: R) A := by
 have h2 : Own ((fun B => ∃ b pre rest,s.a = some ⟨b,pre.length,none⟩ ∧ (s.len * sz = cs.length ∧ s.len ≤ s.cap) ∧ At b (pre ++ cs ++ rest) B) :: R) A := h.imp fun B hB => by
  obtain ⟨b,pre,rest,h4,h5⟩ := hB.2.2 hne
  exact ⟨b,pre,rest,h4,⟨hB.1,hB.2.1⟩,h5⟩
 obtain ⟨b,h2⟩ := h2.ex
 obtain ⟨pre,h2⟩ := h2.ex
 obtain ⟨rest,h2⟩ := h2.ex
 obtain ⟨e1,h2⟩ := h2.pure
 obtain ⟨⟨e2,e3⟩,h2⟩ := h2.pure
 exact ⟨b,pre,rest,e1,e2,e3,h2⟩
theorem keys_spec {i r t t2 : Nat} {m : List (Int × Value)} {Q : Sl→AP} (h : Own l A) (e : l[i]? = some (MapI r .i64 m)) (hn : m.length ≤ 1048576) (hr : ∀ p ∈ m,(Lit.int .i64 p.1).wf = true)
  (hk : ∀ s (is : List Int) A',is.Perm (m.map (·.1))→s.len = is.length→Own (SlAt s 1 (is.map (.int .i64)) :: l) A'→Q s A') : newA A (.cells #[.map (some r)] t2) fun b A1 => clA t (some ⟨b,0,none⟩) (fun s A2 => soI s (fun A3 => Q s A3) A2) A1 := by
 refine new_C (cs := [.map (some r)]) h fun b A1 h1 => ?_
 refine cl_M (m := m) (i := i + 1) (j := 0) h1 rfl (by simpa using e) (by omega) hr (fun h0 => ?_) fun ss s A2 hp hne hsl h2 => ?_
 ·refine ⟨[],rfl,by simp [Sl.nil],rfl,(fun a ha => by cases ha),hk Sl.nil [] A1 (by rw [h0];exact List.Perm.refl _) rfl ?_⟩
  exact sl_nil h1.tail
 ·have hcs : ss.map (Value.int .i64) ≠ [] := fun q => hne (List.map_eq_nil_iff.1 q)
  obtain ⟨b2,pre,rest,ha,e2,e3,h3⟩ := SlAt.openA h2 hcs
  have hss : ss.length = m.length := by rw [hp.length_eq,List.length_map]
  obtain ⟨B,u2,hB⟩ := h2.sat
  obtain ⟨t,ht⟩ := h3.at (i := 0) rfl
  refine ⟨ss,hsl.symm,by omega,?_,fun a ha' i hi => ?_,?_⟩
  ·have := rowA_of hB u2 (fun g => by rw [ha] at g;cases g)
   simpa using this
  ·rw [ha] at ha'
   cases ha'
   rw [add_at]
   simp [frozA,ht]
  ·rw [ha]
   show aStL _ (Addr.add ⟨b2,pre.length,none⟩ 0) 0 A2 _
   rw [add_at,Nat.add_zero]
   have hpm : (ss.mergeSort fun x y => decide (x ≤ y)).Perm ss := List.mergeSort_perm _ _
   refine stL_spec _ 0 A2 pre (ss.map (.int .i64)) rest _ h3 (by simp [hpm.length_eq]) rfl (fun v hv => by obtain ⟨x,_,rfl⟩ := List.mem_map.1 hv;rfl) fun A3 h4 => ?_
   refine hk s _ A3 (hpm.trans hp) (by rw [hpm.length_eq];exact hsl) ?_
   refine (h4.imp fun B hB => ?_).cons fun C hC => hC.tail
   exact ⟨by simp [hpm.length_eq,hsl],e3,fun _ => ⟨b2,pre,rest,ha,hB⟩⟩
theorem Spaces_spec {i j : Nat} {Q : Sl→AH→Prop} (h : Own l A) (e1 : l[i]? = some (At c.m (macC c))) (e2 : l[j]? = some (MapI c.sp .i64 sps)) (hL : sps.length ≤ 1000) (hid : ∀ a ∈ sps,0 ≤ a.1 ∧ a.1 < 1000000)
  (hk : ∀ s (is : List Int) A',is.Perm (sps.map (·.1))→s.len = is.length→Own (SlAt s 1 (is.map (.int .i64)) :: l) A'→Q s A') : qcy_A (some ⟨c.m,0,none⟩) Q A := by
 unfold qcy_A qcy_G
 simp only [onSome_some,add_at,Nat.zero_add]
 refine ld_M (i := i) h e1 rfl ?_
 exact keys_spec h e2 (by omega) (fun p hp => wf64 (by have := hid p hp;omega) (by have := hid p hp;omega)) hk
theorem Root_head {i j k p : Nat} {root id : Int} {regs : List Reg} {lent : List (Int × Int)} {Q : Int→Bool→AH→Prop} (h : Own l A) (e1 : l[i]? = some (At c.m (macC c))) (e2 : l[j]? = some (MapI c.sp .i64 sps)) (hs : sps.lookup id = some (ptrV p)) (e3 : l[k]? = some (OneS p 0 root s regs lent)) (hk : Q root true A) : qcz_A (some ⟨c.m,0,none⟩) id Q A := by
 unfold qcz_A
 simp only [onSome_some,add_at,Nat.zero_add]
 refine ld_M (i := i) h e1 rfl (lk_M (i := j) h e2 ?_)
 rw [hs]
 refine ⟨some ⟨p,0,none⟩,rfl,bsel_t rfl ?_⟩
 simp only [onSome_some,add_at,Nat.zero_add]
 exact one_root h e3 hk
theorem Blocks_spec {o : Nat} {Q : Sl→AH→Prop} (h : Own (budL b mb g st gl n ++ R) A) (hB : BOK st F n) (ho : o ≤ 10) (hn : n ≤ 1048576)
  (hk : ∀ s (ss : List Int) A',ss.Perm (st o)→s.len = ss.length→Own (SlAt s 1 (ss.map (.int .i64)) :: (budL b mb g st gl n ++ R)) A'→Q s A') : qdk_A (some ⟨b,0,none⟩) o Q A := by
 have hlen := total_le (st := st) (o := o) 11 (by omega)
 rw [← hB.sum] at hlen
 have hpo := pow_small (k := o) (by omega)
 have hl20 : ((st o).length : Int) ≤ 1048576 := by
  have : ((st o).length : Int) * 1 ≤ (st o).length * 2 ^ o := Int.mul_le_mul_of_nonneg_left (by omega) (by omega)
  omega
 unfold qdk_A qdk_G
 refine bsel_f (by simp) (bsel_f (by simp;omega) ?_)
 simp only [onSome_some]
 refine inB_in (by omega) (by omega) (ld_free ho h ?_)
 refine keys_spec (m := keysE (st o)) h (frees_at ho) (by simp [keysE];omega) (fun p hp => ?_) fun s ss A1 hp hs h1 => hk s ss A1 ?_ hs h1
 ·obtain ⟨a,ha,rfl⟩ := List.mem_map.1 hp
  have := hB.rng o a ho ha
  exact wf64 (by omega) (by omega)
 ·have : (keysE (st o)).map (·.1) = st o := by unfold keysE;rw [List.map_map];exact List.map_id' _
  rwa [this] at hp
theorem useSort_spec {U : List Us} {K : AP} (h : Own (SlO s 3 (usV U) :: R) A) (hs : s.a = none→U = []) (hb : U.length ≤ 1000000)
  (hk : ∀ d' : List Us,d'.Perm U→d'.Pairwise (fun x y => x.1 ≤ y.1)→∀ A',Own (SlO s 3 (usV d') :: R) A'→K A') : qdl_A s K A := by
 have hl : s.len = U.length := by
  obtain ⟨B,_,hB⟩ := h.sat
  have := hB.1.1
  rw [usV_len] at this
  omega
 unfold qdl_A
 have hsrt : ∀ d' : List Us,d'.Pairwise (fun x y => ltOf useCf y x = false)→d'.Pairwise (fun x y => x.1 ≤ y.1) := fun d' hd => hd.imp fun {x y} g => by rw [useLt] at g;simp at g;omega
 by_cases hne : U = []
 ·subst hne
  have h0 : s.len = 0 := by simpa using hl
  refine ⟨[],by simp [h0],by omega,?_,fun a ha i hi => by rw [h0] at hi;omega,fun d' hp hd => ?_⟩
  ·cases ha : s.a with
   | none => rfl
   | some a => exact ⟨by simp [h0],fun i hi => by rw [h0] at hi;omega⟩
  ·have := hp.eq_nil
   subst this
   have hst : aStR s.a 0 [] A K ↔ K A := by cases s.a <;> exact Iff.rfl
   show aStR s.a 0 [] A K
   rw [hst]
   exact hk [] (List.Perm.refl _) List.Pairwise.nil A h
 ·have hr : usV U ≠ [] := fun g => hne (usV_nil g)
  obtain ⟨b,rest,ha,hc,hn1,hn2,h2⟩ := h.openS hr
  obtain ⟨B,u,hB⟩ := h.sat
  obtain ⟨t,ht⟩ := h2.at (i := 0) rfl
  refine ⟨U,hl.symm,by omega,?_,fun a ha' i hi => ?_,fun d' hp hd => ?_⟩
  ·exact rowA_of hB.look u (fun g => by rw [ha] at g;cases g)
  ·rw [ha] at ha'
   cases ha'
   rw [add_at]
   simp [frozA,ht]
  ·rw [ha]
   have hlen : d'.length = U.length := hp.length_eq
   show aStL (usV d') (Addr.add ⟨b,0,none⟩ 0) 0 A K
   rw [add_at]
   refine stL_spec (usV d') 0 A [] (usV U) rest K h2 (by rw [usV_len,usV_len,hlen]) rfl (fun v hv => usV_one hv) fun A' h' => ?_
   refine hk d' hp (hsrt d' hd) A' (Own.shutS h' ha ?_ ?_ hn2)
   ·rw [← hc];simp [usV_len,hlen]
   ·rw [hn1,usV_len,usV_len,hlen]
end Go.Dn
