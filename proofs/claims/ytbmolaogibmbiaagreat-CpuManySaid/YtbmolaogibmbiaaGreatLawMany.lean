/- What the proof stands on: Stale, Two, LawShares, LawMany. -/
import Derived.Test.YtbmolaogibmbiaaGreatLawSizes
import Derived.Test.YtbmolaogibmbiaaGreatFamC
/- No line that is kept is stale. -/
namespace Go.Dn
variable {A : AH} {l R : List SP} {P : SP} {ls ys : List Ln} {c : Mb} {u : Int} {F G : Int→Prop} {W : Int→Int→Int} {z : PcZ} {sps : List (Int × Value)} {cp n : Nat} {a : Sp} {L : List Sp} {N : Int} {s : Sl} {k : Nat}
theorem rd_lnR {v : Nat} {y : Ln} (h : Own l A) (e : l[k]? = some P) (hr : Reads P s 9 (lnC ys)) (hv : ys[v]? = some y) :
  ∃ a,s.a = some a ∧ ∀ K : Bool→Int→Int→Int→Bool→Bool→Bool→Bool→Bool→Prop,K y.v y.tag y.page y.frame y.w y.u y.x y.g y.d →
   aB (Addr.add a (Int.toNat (v : Int) * 9)) A fun b0 => aI .i64 (Addr.add (Addr.add a (Int.toNat (v : Int) * 9)) 1) A fun n1 => aI .i64 (Addr.add (Addr.add a (Int.toNat (v : Int) * 9)) 2) A fun n2 => aI .i64 (Addr.add (Addr.add a (Int.toNat (v : Int) * 9)) 3) A fun n3 =>
    aB (Addr.add (Addr.add a (Int.toNat (v : Int) * 9)) 4) A fun b4 => aB (Addr.add (Addr.add a (Int.toNat (v : Int) * 9)) 5) A fun b5 => aB (Addr.add (Addr.add a (Int.toNat (v : Int) * 9)) 6) A fun b6 => aB (Addr.add (Addr.add a (Int.toNat (v : Int) * 9)) 7) A fun b7 => aB (Addr.add (Addr.add a (Int.toNat (v : Int) * 9)) 8) A fun b8 => K b0 n1 n2 n3 b4 b5 b6 b7 b8 := by
 have at9 : ∀ c,c < 9→(lnC ys)[v * 9 + c]? = y.cells[c]? := fun c hc => lnC_at hv hc
 obtain ⟨bb,o,q0,c0⟩ := rd_cell h e hr (j := v * 9 + 0) (v := .bool y.v) (by rw [at9 0 (by omega)];rfl)
 refine ⟨_,q0,fun K hK => ?_⟩
 have hc : ∀ c z,c < 9→y.cells[c]? = some z→cellA A ⟨bb,o + v * 9 + c,none⟩ = some z := fun c z hc hz => by
  obtain ⟨b2,o2,q1,c1⟩ := rd_cell h e hr (j := v * 9 + c) (by rw [at9 c hc];exact hz)
  rw [q0] at q1
  cases q1
  rw [Nat.add_assoc]
  exact c1
 simp only [add_at,Int.toNat_natCast]
 exact ⟨_,by simpa using hc 0 _ (by omega) rfl,_,hc 1 _ (by omega) rfl,_,hc 2 _ (by omega) rfl,_,hc 3 _ (by omega) rfl,_,hc 4 _ (by omega) rfl,_,hc 5 _ (by omega) rfl,_,hc 6 _ (by omega) rfl,_,hc 7 _ (by omega) rfl,_,hc 8 _ (by omega) rfl,hK⟩
theorem stale1 {b j : Nat} {y : Ln} {id : Int} {x : Lf} {Q : Bool→AH→Prop} (h : Own (MacL c F G W u ls z sps (At b [.pointer (some ⟨c.m,0,none⟩)] :: R)) A) (hj : R[j]? = some a.own) (hp : StdP c.N F G) (hR : Rest G W a.root a.tab a.lf a.tl) (ho : z.own.lookup y.tag = some id) (hs : sps.lookup id = some (ptrV a.p)) (hg : y.g = false) (hl : a.lf y.page = some x) (hx : y.frame = x.frame ∧ y.w = x.w ∧ y.u = x.u ∧ y.x = x.x)
  (hk : ∀ A',Own (MacL c F G W u ls z sps (At b [.pointer (some ⟨c.m,0,none⟩)] :: R)) A'→Q true A') : qes_A y.v y.tag y.page y.frame y.w y.u y.x y.g y.d (some ⟨b,0,none⟩) Q A := by
 unfold qes_A qes_G
 simp only [onSome_some,add_at,Nat.zero_add]
 refine ld_P (i := 7) h rfl rfl ?_
 simp only [onSome_some,add_at,Nat.zero_add]
 refine ld_P (i := 3) h rfl rfl (pOwner_spec (MacL.tags h) ?_)
 rw [ho]
 refine ld_P (i := 7) h rfl rfl ?_
 simp only [onSome_some,add_at,Nat.zero_add,Option.getD_some]
 refine ld_M (i := 3) h rfl rfl (lk_M (i := 4) h rfl ?_)
 rw [hs]
 refine ⟨some ⟨a.p,0,none⟩,rfl,fun A' => A' = A,fun A1 e1 => ?_,bsel_f rfl (bsel_f rfl ?_)⟩
 ·subst e1
  simp only [onSome_some,add_at,Nat.zero_add]
  have hj' : (MacL c F G W u ls z sps (At b [.pointer (some ⟨c.m,0,none⟩)] :: R))[j + 8]? = some (OneS a.p 0 a.root a.s a.regs a.lent) := hj
  refine ld_P (i := 7) h rfl rfl ?_
  refine one_box h hj' (one_root h hj' (purse_head (k := 3) h rfl ⟨one_root h hj' rfl,?_⟩))
  refine RQuery_spec h hp.inG hR (fun hn => by rw [hl] at hn;cases hn) fun x' hx' A2 h2 => ?_
  rw [hl] at hx'
  cases hx'
  obtain ⟨x1,x2,x3,x4⟩ := hx
  refine bsel_t rfl (bsel_t (by rw [x1];simp) ?_)
  have : ((x.w == y.w) && ((x.u == y.u) && ((x.x == y.x) && true))) = true := by rw [x2,x3,x4];simp
  rw [this]
  exact hk A2 h2
 ·rw [hg]
  exact bsel_f rfl rfl
theorem Stale_spec {Q : Sl→AH→Prop} (h : Own (MacL c F G W u ls z sps (famR cp c.m n L l)) A) (hs : SpsOK sps L) (hf : FamOK c.N F G W z ls L) (hk : ∀ s A',s.len = 0→Own (MacL c F G W u ls z sps (famR cp c.m n L l)) A'→Q s A') : qev_A (some ⟨c.m,0,none⟩) Q A := by
 unfold qev_A qev_G
 refine new_C (cs := [.pointer (some ⟨c.m,0,none⟩)]) h fun b A1 h1 => ?_
 refine ld_P (i := 0) h1 rfl rfl ?_
 have h1 := MacL.backX h1
 simp only [onSome_some,add_at,Nat.zero_add]
 refine ld_P (i := 3) h1 rfl rfl ?_
 refine Lines_spec (MacL.tlb h1) fun s A2 hlen h2 => ?_
 have hlen16 : (ls.filter (·.v)).length ≤ 16 := by
  have := (TlbS.openH (MacL.tlb h1)).1
  exact Nat.le_trans (List.length_filter_le _ _) (by omega)
 have h2 : Own (SlO s 9 (lnC (ls.filter (·.v))) :: MacL c F G W u ls z sps (At b [.pointer (some ⟨c.m,0,none⟩)] :: famR cp c.m n L l)) A2 := h2.cons fun C hC => MacL.tlbB hC
 have h2 : Own (MacL c F G W u ls z sps (At b [.pointer (some ⟨c.m,0,none⟩)] :: SlO s 9 (lnC (ls.filter (·.v))) :: famR cp c.m n L l)) A2 := MacL.mapR (fun C hC => hC.swap) (MacL.backX h2)
 generalize hys : ls.filter (·.v) = ys at h2 hlen hlen16
 have good : ∀ y ∈ ys,∀ {Q1 : Bool→AH→Prop} {A3 : AH},Own (MacL c F G W u ls z sps (At b [.pointer (some ⟨c.m,0,none⟩)] :: SlO s 9 (lnC ys) :: famR cp c.m n L l)) A3→(∀ A',Own (MacL c F G W u ls z sps (At b [.pointer (some ⟨c.m,0,none⟩)] :: SlO s 9 (lnC ys) :: famR cp c.m n L l)) A'→Q1 true A') →
   qes_A y.v y.tag y.page y.frame y.w y.u y.x y.g y.d (some ⟨b,0,none⟩) Q1 A3 := fun y hy Q1 A3 h3 hq => by
  rw [← hys] at hy
  obtain ⟨hy1,hy2⟩ := List.mem_filter.1 hy
  obtain ⟨g1,x,g2,g3⟩ := hf.ln y hy1 hy2
  unfold vw at g2
  cases e : z.own.lookup y.tag with
  | none => rw [e] at g2;cases g2
  | some id =>
   rw [e] at g2
   have g2 : lfOf L id y.page = some x := g2
   unfold lfOf at g2
   cases e2 : L.find? (fun a => a.id == id) with
   | none => rw [e2] at g2;cases g2
   | some a =>
    rw [e2] at g2
    have ha := List.mem_of_find?_eq_some e2
    obtain ⟨j,hj⟩ := List.mem_iff_getElem?.1 ha
    have hj2 : (SlO s 9 (lnC ys) :: famR cp c.m n L l)[j + 2]? = some a.own := by
     show (L.map Sp.own ++ l)[j]? = some a.own
     rw [List.getElem?_append_left (by simp;exact (List.getElem?_eq_some_iff.1 hj).1),List.getElem?_map,hj];rfl
    exact stale1 h3 hj2 hf.std (hf.rest a ha) e (by rw [hs.find hf.ids,e2];rfl) g1 g2 g3 hq
 have fin : ∀ {A3 : AH},Own (MacL c F G W u ls z sps (At b [.pointer (some ⟨c.m,0,none⟩)] :: SlO s 9 (lnC ys) :: famR cp c.m n L l)) A3→Own (MacL c F G W u ls z sps (famR cp c.m n L l)) A3 := fun h3 => MacL.mapR (fun C hC => hC.tail.tail) h3
 have rdy : ∀ {A3 : AH} {v : Nat},Own (MacL c F G W u ls z sps (At b [.pointer (some ⟨c.m,0,none⟩)] :: SlO s 9 (lnC ys) :: famR cp c.m n L l)) A3→(v : Int) < s.len→∃ y,ys[v]? = some y ∧ y ∈ ys := fun {A3 v} h3 hv => ⟨ys[v]'(by omega),by simp,List.getElem_mem _⟩
 unfold qeu_A qeu_G qet_A qet_G
 refine ⟨fun x m A' => x = 0 ∧ Own (MacL c F G W u ls z sps (At b [.pointer (some ⟨c.m,0,none⟩)] :: SlO s 9 (lnC ys) :: famR cp c.m n L l)) A',⟨0,rfl,h2⟩,fun x m A3 ⟨e1,h3⟩ => ?_⟩
 subst e1
 refine bsel_in (fun cc => ?_) fun cc => ?_
 ·have cc : (0 : Int) < s.len := of_decide_eq_true cc
  obtain ⟨y,hy,hym⟩ := rdy (v := 0) h3 cc
  obtain ⟨a0,q1,q2⟩ := rd_lnR (k := 8) h3 rfl (reads_slC (s := s)) hy
  rw [q1]
  simp only [onSome_some]
  refine inB_in (by omega) cc (q2 _ ?_)
  refine good y hym h3 fun A4 h4 => bsel_t rfl (bsel_f rfl ?_)
  refine ⟨fun x v m A' => x = 0 ∧ ∃ i : Nat,v = i ∧ i + m = s.len ∧ Own (MacL c F G W u ls z sps (At b [.pointer (some ⟨c.m,0,none⟩)] :: SlO s 9 (lnC ys) :: famR cp c.m n L l)) A',⟨s.len - 1,rfl,1,rfl,by omega,h4⟩,fun x v m A5 ⟨e1,i,e2,e3,h5⟩ => ?_⟩
  subst e1 e2
  refine bsel_in (fun c2 => ?_) fun c2 => ?_
  ·have c2 : (i : Int) < s.len := of_decide_eq_true c2
   obtain ⟨y2,hy2,hym2⟩ := rdy (v := i) h5 c2
   obtain ⟨a2,q3,q4⟩ := rd_lnR (k := 8) h5 rfl (reads_slC (s := s)) hy2
   refine ⟨fun x A' => x = 0 ∧ Own (MacL c F G W u ls z sps (At b [.pointer (some ⟨c.m,0,none⟩)] :: SlO s 9 (lnC ys) :: famR cp c.m n L l)) A',fun x A6 ⟨e4,h6⟩ => ⟨m - 1,by omega,e4,i + 1,by rw [w64] <;> omega,by omega,h6⟩,?_⟩
   rw [q1] at q3
   cases q3
   refine inB_in (by omega) c2 (q4 _ ?_)
   exact good y2 hym2 h5 fun A6 h6 => bsel_f rfl ⟨rfl,h6⟩
  ·refine inB_in (by omega) (by omega) ?_
   have hcap : s.cap ≠ 0 := by
    have h6 : Own (SlO s 9 (lnC ys) :: MacL c F G W u ls z sps (At b [.pointer (some ⟨c.m,0,none⟩)] :: famR cp c.m n L l)) A5 := by
     unfold MacL StdO at h5 ⊢
     exact h5.pick 8 rfl
    have := h6.capS6
    omega
   have h6 : Own (SlO s 9 (lnC ys) :: MacL c F G W u ls z sps (At b [.pointer (some ⟨c.m,0,none⟩)] :: famR cp c.m n L l)) A5 := by
    unfold MacL StdO at h5 ⊢
    exact h5.pick 8 rfl
   have hle := h6.capS6
   obtain ⟨b2,rest,ha2,hc2⟩ : ∃ b2 rest,s.a = some ⟨b2,0,none⟩ ∧ Own (At b2 (lnC ys ++ rest) :: MacL c F G W u ls z sps (At b [.pointer (some ⟨c.m,0,none⟩)] :: famR cp c.m n L l)) A5 := by
    obtain ⟨_,h7⟩ := h6.pure
    have h8 : Own ((fun B => ∃ b rest,s.a = some ⟨b,0,none⟩ ∧ At b (lnC ys ++ rest) B) :: MacL c F G W u ls z sps (At b [.pointer (some ⟨c.m,0,none⟩)] :: famR cp c.m n L l)) A5 := h7.imp fun B hB => by
     rcases hB with hB | ⟨b',r',e1,_,e3⟩
     ·exact absurd hB hcap
     ·exact ⟨b',r',e1,e3⟩
    obtain ⟨b2,h8⟩ := h8.ex
    obtain ⟨rest,h8⟩ := h8.ex
    obtain ⟨ha,h8⟩ := h8.pure
    exact ⟨b2,rest,ha,h8⟩
   have hsl : (if s.cap = Int.toNat (0 : Int) then (some a0) else Option.map (fun x => Addr.add x (Int.toNat (0 : Int) * 9)) (some a0)) = some ⟨b2,0,none⟩ := by
    rw [← q1,if_neg (by simpa using hcap),ha2]
    rfl
   rw [hsl]
   show aStL (Builtin.zeroCells _ _).toList (Addr.add ⟨b2,0,none⟩ 0) 0 A5 _
   rw [add_at,Nat.zero_add]
   have hc2 : Own (At b2 ([] ++ lnC ys ++ rest) :: MacL c F G W u ls z sps (At b [.pointer (some ⟨c.m,0,none⟩)] :: famR cp c.m n L l)) A5 := hc2
   refine stL_spec _ 0 A5 [] (lnC ys) rest _ hc2 ?_ rfl (zeroCells_one (fun v hv => ?_)) fun A6 h7 => ?_
   ·have hz := zeroCells_len (z := #[.bool false,.int .i64 (0 : Int),.int .i64 (0 : Int),.int .i64 (0 : Int),.bool false,.bool false,.bool false,.bool false,.bool false]) (n := s.len - Int.toNat (0 : Int))
    show (lnC ys).length = Array.size _
    rw [hz,lnC_len]
    show ys.length * 9 = (s.len - 0) * 9
    omega
   ·simp at hv
    rcases hv with rfl | rfl | rfl <;> rfl
   ·exact inB_in (by omega) (by omega) (hk _ A6 rfl (MacL.mapR (fun C hC => hC.tail) h7.tail))
 ·have cc : ¬(0 : Int) < s.len := of_decide_eq_false cc
  exact bsel_t rfl (hk s A3 (by omega) (fin h3))
end Go.Dn
/- Two spaces: what one lends to the other. -/
namespace Go.Dn
variable {A : AH} {l R : List SP} {ls : List Ln} {c : Mb} {u : Int} {F G : Int→Prop} {W : Int→Int→Int} {z : PcZ} {sps : List (Int × Value)} {cp n : Nat} {a b : Sp} {pre post : List Sp}
theorem DoT {addr x0 : Int} {aw : Bool} {y : Reg} {x : Lf} {Q : Int→Int→Int→Int→AH→Prop} (h : Own (MacL c F G W u ls z sps (famR cp c.m n (pre ++ a :: post) l)) A) (hs : SpsOK sps (pre ++ a :: post)) (hf : FamOK c.N F G W z ls (pre ++ a :: post))
  (hu : 0 ≤ u ∧ u + 5 ≤ c.N) (hN : c.N ≤ 262144) (ha : 0 ≤ addr ∧ addr < 140737488355328) (hd : addr % 8 = 0) (hy : findR a.regs (addr / 4096) = some y) (hm : mayZ y.w y.u y.x aw true false = true) (hx : a.lf (addr / 4096) = some x) (hU : U64 (W x.frame (addr % 4096 / 8)))
  (hkl : aw = false→∀ W' ls' z' A',FamOK c.N F G W' z' ls' (pre ++ a :: post)→(∀ g,G g→g ∉ a.tl→W' g = W g)→Own (MacL c F G W' u ls' z' sps (famR cp c.m n (pre ++ a :: post) l)) A'→Q (W x.frame (addr % 4096 / 8)) 0 0 0 A')
  (hks : aw = true→U64 x0→∀ W' ls' z' A',FamOK c.N F G W' z' ls' (pre ++ a :: post)→(∀ g,G g→g ∉ a.tl→W' g = setW W x.frame (addr % 4096 / 8) x0 g)→Own (MacL c F G W' u ls' z' sps (famR cp c.m n (pre ++ a :: post) l)) A'→Q 0 0 0 0 A') (hU0 : U64 x0) :
  qds_A (some ⟨cp,0,none⟩) a.id addr 8 aw x0 Q A := by
 have ham : a ∈ pre ++ a :: post := mem_mid.2 (.inl rfl)
 obtain ⟨k1,k2⟩ := hf.leafG a ham _ x hx
 have h8 : (addr % 4096 % 8).toNat = 0 := by omega
 refine DoF (size := 8) h hs hf hu hN ha (by omega) hd (fun hn => ?_) (fun e y' hy' _ x' F' G' W' u' tab' lf' tl' ls' z' A' hG hf' hs' hA => ?_) fun e y' hy' _ x' F' G' W' u' tab' lf' tl' ls' z' A' hG hf' hs' hA => ?_
 ·have := hn y hy
  rw [hm] at this;cases this
 ·obtain ⟨e1,e2,e3,e4,e5,e6⟩ := hG.same (by rw [hx];simp)
  have hl := hG.leaf
  rw [e5,hx] at hl
  cases hl
  have hkp := hG.keep
  subst e1 e2 e3 e4 e5 e6
  rw [hkp _ k1 (k2 a ham),h8,get_all hU]
  exact hkl e W' ls' z' A' hf' hkp hA
 ·obtain ⟨e1,e2,e3,e4,e5,e6⟩ := hG.same (by rw [hx];simp)
  have hl := hG.leaf
  rw [e5,hx] at hl
  cases hl
  have hkp := hG.keep
  subst e1 e2 e3 e4 e5 e6
  rw [hkp _ k1 (k2 a ham),h8,put_all hU hU0] at hA hf'
  refine hks e hU0 _ ls' z' A' hf' (fun g g1 g2 => ?_) hA
  funext i
  unfold setW
  rw [hkp g g1 g2]
def Sp.lends (a : Sp) (lent : List (Int × Int)) : Sp := { a with lent := lent }
theorem lf2 {id : Int} : lfOf [b,a] id = if b.id = id then b.lf else if a.id = id then a.lf else fun _ => none := by
 unfold lfOf
 simp only [List.find?_cons,List.find?_nil]
 by_cases h1 : b.id = id
 ·have : (b.id == id) = true := by simpa using h1
  rw [this,if_pos h1]
 ·have : (b.id == id) = false := by simpa using h1
  rw [this,if_neg h1]
  by_cases h2 : a.id = id
  ·have : (a.id == id) = true := by simpa using h2
   rw [this,if_pos h2]
  ·have : (a.id == id) = false := by simpa using h2
   rw [this,if_neg h2]
end Go.Dn
/- The law CpuShares: what one stores in a lent page the other one loads, until it is back. -/
namespace Go.Dn
variable {A : AH} {l R : List SP} {ls : List Ln} {c : Mb} {u : Int} {F G : Int→Prop} {W : Int→Int→Int} {z : PcZ} {sps : List (Int × Value)} {cp n : Nat} {a b : Sp}
theorem do_id {id id' a s x : Int} {w : Bool} {q : Option Addr} {Q : Int→Int→Int→Int→AH→Prop} (e : id = id') (h : qds_A q id a s w x Q A) : qds_A q id' a s w x Q A := e ▸ h
end Go.Dn
/- The law CpuMany: spaces that come and go, more than there are tags, never see anything of one another. -/
namespace Go.Dn
variable {A : AH} {l R : List SP} {ls : List Ln} {c : Mb} {u : Int} {F G : Int→Prop} {W W' : Int→Int→Int} {z : PcZ} {sps : List (Int × Value)} {cp n : Nat} {a : Sp} {L pre post : List Sp} {xv : Int}
def wv (x id : Int) : Int := IntKind.wrap .u64 (x + IntKind.wrap .u64 id)
theorem wrapU (x : Int) : U64 (IntKind.wrap .u64 x) := by
 have h : IntKind.wrap .u64 x = x % 18446744073709551616 := by simp [IntKind.wrap,IntKind.bits,IntKind.signed]
 rw [h]
 exact ⟨Int.emod_nonneg _ (by omega),Int.emod_lt_of_pos _ (by omega)⟩
theorem wv_u (x id : Int) : U64 (wv x id) := wrapU _
def y34 : Reg := ⟨3,4,true,true,false,0⟩
structure Ready (W : Int→Int→Int) (xv : Int) (a : Sp) : Prop where
 lent : a.lent = []
 regs : a.regs = [y34]
 one : ∀ q,a.lf q ≠ none ↔ q = 3
 tl4 : a.tl.length ≤ 4
 val : ∀ x,a.lf 3 = some x→W x.frame 2 = wv xv a.id
theorem Ready.leaf (h : Ready W xv a) : ∃ x,a.lf 3 = some x := by
 cases e : a.lf 3 with
 | none => exact absurd e ((h.one 3).2 rfl)
 | some x => exact ⟨x,rfl⟩
theorem Ready.keep (h : Ready W xv a) (hW : ∀ x,a.lf 3 = some x→W' x.frame = W x.frame) : Ready W' xv a := ⟨h.lent,h.regs,h.one,h.tl4,fun x hx => by rw [hW x hx];exact h.val x hx⟩
def FrInj (L : List Sp) : Prop := ∀ a ∈ L,∀ b ∈ L,a.id ≠ b.id→∀ x w,a.lf 3 = some x→b.lf 3 = some w→x.frame ≠ w.frame
def costL (L : List Sp) : Int := (L.map fun a => (a.tl.length : Int) + 1).sum
theorem cost_cons : costL (a :: L) = (a.tl.length : Int) + 1 + costL L := by simp [costL]
theorem cost_snoc : costL (L ++ [a]) = costL L + ((a.tl.length : Int) + 1) := by simp [costL]
theorem cost_le : ∀ {L : List Sp},(∀ a ∈ L,a.tl.length ≤ 4)→0 ≤ costL L ∧ costL L ≤ 5 * (L.length : Int)
 | [],_ => by simp [costL]
 | a :: L,h => by
  have := cost_le (L := L) fun b hb => h b (List.mem_cons_of_mem _ hb)
  have h1 := h a (by simp)
  rw [cost_cons]
  simp only [List.length_cons]
  omega
def Many (c : Mb) (cp n : Nat) (xv : Int) (ids : List Int) (l : List SP) : AP := fun A => ∃ F G W u ls z sps L,L.map (·.id) = ids ∧ (∀ a ∈ L,Ready W xv a) ∧ FrInj L ∧ u = 2 + costL L ∧ SpsOK sps L ∧ FamOK c.N F G W z ls L ∧ Own (MacL c F G W u ls z sps (famR cp c.m n L l)) A
theorem Many.rest {ids : List Int} (h : Many c cp n xv ids l A) : Own l A := by
 obtain ⟨F,G,W,u,ls,z,sps,L,_,_,_,_,_,_,h⟩ := h
 have h2 := (MacL.rest h).tail
 exact h2.sub (List.sublist_append_right _ _)
theorem rdy_find (h : Ready W xv a) : findR a.regs (12304 / 4096) = some y34 := by rw [h.regs];rfl
theorem LoadM {ids : List Int} {id : Int} {Q : Int→Int→Int→Int→AH→Prop} (h : Many c cp n xv ids l A) (hcN : c.N = 60) (hid : id ∈ ids) (hle : ids.length ≤ 4) (hk : ∀ A',Many c cp n xv ids l A'→Q (wv xv id) 0 0 0 A') : qds_A (some ⟨cp,0,none⟩) id 12304 8 false 0 Q A := by
 obtain ⟨F,G,W,u,ls,z,sps,L,rfl,hr,hi,hu,hs,hf,h⟩ := h
 obtain ⟨a,ha,rfl⟩ := List.mem_map.1 hid
 obtain ⟨pre,post,rfl⟩ := List.append_of_mem ha
 have hra := hr a ha
 obtain ⟨x,hx⟩ := hra.leaf
 have hc := cost_le fun b hb => (hr b hb).tl4
 rw [List.length_map] at hle
 have hv := hra.val x hx
 refine DoT (y := y34) (x := x) h hs hf ⟨by omega,by omega⟩ (by omega) ⟨by omega,by omega⟩ (by omega) (rdy_find hra) rfl hx (by show U64 (W x.frame 2);rw [hv];exact wv_u _ _) (fun _ W' ls' z' A' hf' hW' hA => ?_) (fun g => by cases g) ⟨by omega,by omega⟩
 show Q (W x.frame 2) 0 0 0 A'
 rw [hv]
 refine hk A' ⟨F,G,W',u,ls',z',sps,_,rfl,fun b hb => (hr b hb).keep fun w hw => ?_,hi,hu,hs,hf',hA⟩
 obtain ⟨j1,j2⟩ := hf.leafG b hb 3 w hw
 exact hW' _ j1 (j2 a ha)
theorem CloseM {ids : List Int} {id : Int} {Q : Int→AH→Prop} (h : Many c cp n xv (ids ++ [id]) l A) (hk : ∀ A',Many c cp n xv ids l A'→Q 0 A') : qep_A (some ⟨c.m,0,none⟩) id Q A := by
 obtain ⟨F,G,W,u,ls,z,sps,L,hL,hr,hi,hu,hs,hf,h⟩ := h
 obtain ⟨pre,t,rfl,hpre,ht⟩ := List.map_eq_append_iff.1 hL
 obtain ⟨a,t2,rfl,rfl,ht2⟩ := List.map_eq_cons_iff.1 ht
 obtain rfl := List.map_eq_nil_iff.1 ht2
 have ha : a ∈ pre ++ [a] := by simp
 have hra := hr a ha
 obtain ⟨x,hx⟩ := hra.leaf
 have hn := hf.ids
 have hc := cost_le fun b hb => (hr b (List.mem_append_left [a] hb)).tl4
 rw [cost_snoc] at hu
 refine CloseF (page := 3) (x := x) (post := []) h hs hf hra.lent (fun y hy => by rw [hra.regs] at hy;simp at hy;subst hy;rfl) ⟨y34,by rw [hra.regs];rfl,rfl⟩ hra.one hx (fun b hb q w hw => ?_) (by omega) fun F' G' W' ls' z' sps' A' hs' hf' hW' hA => ?_
 ·have hb : b ∈ pre ++ [a] := by simp at hb;simp [hb]
  have hq : q = 3 := ((hr b hb).one q).1 (by rw [hw];simp)
  subst hq
  have hne : b.id ≠ a.id := mid_ne (post := []) hn (by assumption)
  exact hi b hb a ha hne w x hw hx
 ·rw [List.append_nil] at hs' hf' hA
  refine hk A' ⟨F',G',W',_,ls',z',sps',pre,hpre,fun b hb => (hr b (List.mem_append_left _ hb)).keep fun w hw => hW' _ ((hf.leafG b (List.mem_append_left _ hb) 3 w hw).2 a ha),fun b hb d hd => hi b (List.mem_append_left _ hb) d (List.mem_append_left _ hd),?_,hs',hf',hA⟩
  omega
theorem OpenM {ids : List Int} {id : Int} {K : Int→Int→Int→Int→Int→AP} {Y Z : AH→Prop} (h : Many c cp n xv ids l A) (hcN : c.N = 60) (hkn : 0 ≤ c.kern ∧ c.kern < c.N) (hid : 0 ≤ id) (hnew : id ∉ ids) (hle : ids.length ≤ 3)
  (hk : ∀ A',Many c cp n xv (id :: ids) l A'→K 0 0 0 (wv xv id) 0 A') :
  ∃ R27 : AH→Prop,(∀ h36,R27 h36→qds_A (some ⟨cp,0,none⟩) id 12304 8 false 0 (fun n37 _ _ n40 h41 => qds_A (some ⟨cp,0,none⟩) id 12304 8 true (wv xv id) (fun _ _ _ n45 h46 => qds_A (some ⟨cp,0,none⟩) id 12304 8 false 0 (fun n47 _ _ n50 h51 => K n37 n40 n45 n47 n50 h51) h46) h41) h36) ∧
  (onSome (some ⟨cp,0,none⟩) fun a28 => aP a28 A fun pt29 => qbw_A pt29 id 0 (fun n30 h31 => bsel (n30 != 0) (Y h31) (onSome (some ⟨cp,0,none⟩) fun a32 => aP a32 h31 fun pt33 => qch_A pt33 id 3 4 true true false (fun n34 h35 => bsel (n34 != 0) (Z h35) (R27 h35)) h31)) A) := by
 obtain ⟨F,G,W,u,ls,z,sps,L,rfl,hr,hi,hu,hs,hf,h⟩ := h
 have hc := cost_le fun b hb => (hr b hb).tl4
 rw [List.length_map] at hle
 refine ⟨fun A' => ∃ F G W ls z sps a,a.id = id ∧ a.lent = [] ∧ a.regs = [y34] ∧ (∀ q,a.lf q = none) ∧ a.tl.length = 1 ∧ (∀ a ∈ L,Ready W xv a) ∧ SpsOK sps (a :: L) ∧ FamOK c.N F G W z ls (a :: L) ∧ Own (MacL c F G W (u + 1) ls z sps (famR cp c.m n (a :: L) l)) A',fun A1 ⟨F,G,W,ls,z,sps,a,hid',i1,i2,i3,i4,hr1,hs1,hf1,h1⟩ => ?_,?_⟩
 ·have hfr : findR a.regs (12304 / 4096) = some y34 := by rw [i2];rfl
  have hF1 := (bud_apart h1.tail).1
  have ham : a ∈ a :: L := by simp
  have hom : ∀ {b : Sp},b ∈ L→b ∈ a :: L := fun hb => List.mem_cons_of_mem _ hb
  refine do_id hid' ?_
  refine DoF (pre := []) (post := L) (size := 8) h1 hs1 hf1 ⟨by omega,by omega⟩ (by omega) ⟨by omega,by omega⟩ (by omega) (by omega) (fun g => ?_) (fun _ y' hy' _ x F' G' W' u' tab' lf' tl' ls' z' A2 hG hf2 hs2 h2 => ?_) (fun g => by cases g)
  ·have := g _ hfr
   cases this
  rw [hfr] at hy'
  cases hy'
  have hG : Grow c.N F G W (u + 1) a.root a.tab a.lf a.tl 3 y34 x F' G' W' u' tab' lf' tl' := hG
  obtain ⟨m1,m2,m3,m4,m5,m6,m7,m8,m9⟩ := hG.new (i3 3)
  have hlow := nodup_le (l := tl') (hf1.rest a ham).nd m9
  show qds_A _ _ _ _ _ _ _ _
  have e0 : getB (W' x.frame (12304 % 4096 / 8)) (12304 % 4096 % 8 : Int).toNat 8 = 0 := by rw [m3];rfl
  rw [e0]
  have hr2 : ∀ b ∈ L,Ready W' xv b := fun b hb => (hr1 b hb).keep fun w hw => by
   obtain ⟨j1,j2⟩ := hf1.leafG b (hom hb) 3 w hw
   exact hG.keep _ j1 (j2 a ham)
  have hU0 : U64 (0 : Int) := ⟨by omega,by omega⟩
  have hlf : ∀ q,lf' q ≠ none ↔ q = 3 := fun q => by
   by_cases g : q = 3
   ·subst g
    rw [hG.leaf];simp
   ·rw [hG.old q g,i3];simp [g]
  refine do_id (id := (a.as tab' lf' tl').id) hid' ?_
  refine DoT (pre := []) (post := L) (a := a.as tab' lf' tl') (y := y34) (x := x) h2 hs2 hf2 ⟨by omega,by omega⟩ (by omega) ⟨by omega,by omega⟩ (by omega) hfr rfl hG.leaf (by show U64 (W' x.frame 2);rw [m3];exact hU0) (fun g => by cases g) (fun _ _ W3 ls3 z3 A3 hf3 hW3 h3 => ?_) (wv_u _ _)
  have hW3 : ∀ g,G' g→g ∉ tl'→W3 g = setW W' x.frame 2 (wv xv id) g := hW3
  obtain ⟨jx1,jx2⟩ := hf2.leafG (a.as tab' lf' tl') (by simp) 3 x hG.leaf
  have hv3 : W3 x.frame 2 = wv xv id := by rw [hW3 _ jx1 m2];unfold setW;rw [if_pos ⟨rfl,rfl⟩]
  have hxo : ∀ b ∈ L,∀ w,b.lf 3 = some w→w.frame ≠ x.frame := fun b hb w hw e => by
   obtain ⟨j1,_⟩ := hf1.leafG b (hom hb) 3 w hw
   exact hF1 x.frame m1 (by rw [← e];exact j1)
  have hr3 : ∀ b ∈ L,Ready W3 xv b := fun b hb => (hr2 b hb).keep fun w hw => by
   obtain ⟨j1,j2⟩ := hf2.leafG b (List.mem_cons_of_mem _ hb) 3 w hw
   rw [hW3 _ j1 (j2 (a.as tab' lf' tl') (by simp))]
   funext i
   unfold setW
   rw [if_neg (fun e => hxo b hb w hw e.1)]
  have hra : Ready W3 xv (a.as tab' lf' tl') := ⟨i1,i2,hlf,by show tl'.length ≤ 4;omega,fun w hw => by
   have hw : lf' 3 = some w := hw
   rw [hG.leaf] at hw;cases hw
   rw [hv3];rw [← hid'];rfl⟩
  have hm : Many c cp n xv (id :: L.map (·.id)) l A3 := by
   refine ⟨F',G',W3,u',ls3,z3,sps,a.as tab' lf' tl' :: L,by rw [List.map_cons];rw [show (a.as tab' lf' tl').id = id from hid'],fun b hb => ?_,fun b hb d hd hne w1 w2 h1 h2 => ?_,?_,hs2,hf3,h3⟩
   ·rcases List.mem_cons.1 hb with rfl | hb
    ·exact hra
    ·exact hr3 b hb
   ·rcases List.mem_cons.1 hb with rfl | hb2 <;> rcases List.mem_cons.1 hd with rfl | hd2
    ·exact absurd rfl hne
    ·have h1 : lf' 3 = some w1 := h1
     rw [hG.leaf] at h1;cases h1
     exact fun e => hxo d hd2 w2 h2 e.symm
    ·have h2 : lf' 3 = some w2 := h2
     rw [hG.leaf] at h2;cases h2
     exact hxo b hb2 w1 h1
    ·exact hi b hb2 d hd2 hne w1 w2 h1 h2
   ·rw [cost_cons,m6]
    show _ = 2 + ((tl'.length : Int) + 1 + costL L)
    omega
  refine LoadM hm hcN (by simp) (by simp;omega) fun A4 h4 => hk A4 h4
 ·refine cpu_mF h ?_
  refine OpenF (id := id) h hs hf hid (fun a ha e => hnew (List.mem_map.2 ⟨a,ha,e⟩)) ⟨by omega,by omega⟩ (by omega) hkn fun p root sps' F' G' W' A1 hs1 hf1 _ hW1 _ _ h1 => bsel_f rfl ?_
  refine cpu_mF h1 ?_
  refine MapF (pre := []) (post := L) (a := Sp.new id p root) (y := y34) h1 hs1 hf1 rfl rfl (fun _ => rfl) rfl rfl fun s A2 hs2 hf2 h2 => bsel_f rfl ?_
  exact ⟨F',G',W',ls,z,sps',(Sp.new id p root).with1 s y34,rfl,rfl,rfl,fun _ => rfl,rfl,fun b hb => (hr b hb).keep fun w hw => hW1 _ (hf.leafG b hb 3 w hw).1,hs2,hf2,h2⟩
theorem OneS.some {p : Nat} {box root : Int} {s : Sl} {regs : List Reg} {lent : List (Int × Int)} (h : Own (MacL c F G W u ls z sps (OneS p box root s regs lent :: l)) A) : s.a = none→regs = [] := fun hn => by
 obtain ⟨lm,h⟩ := MacL.openOne h
 unfold MacL StdO oneL at h
 obtain ⟨⟨e1,e2⟩,h2⟩ := (h.pick 8 rfl).pure
 obtain ⟨B,_,hB⟩ := h2.sat
 rcases hB with hB | ⟨b,r,hb,_⟩
 ·rw [hB] at e2
  have h0 : s.len = 0 := by omega
  rw [h0] at e1
  exact List.length_eq_zero_iff.1 (by rw [regC_len] at e1;omega)
 ·rw [hn] at hb;cases hb
theorem kind_spec {ids : List Int} {Q : Int→AH→Prop} (h : Many c cp n xv ids l A) (hle : ids.length ≤ 4) (hid : ∀ i ∈ ids,0 ≤ i ∧ i < 1000000) (hk : ∀ A',Many c cp n xv ids l A'→Q 0 A') : qfc_A (some ⟨c.m,0,none⟩) Q A := by
 obtain ⟨F,G,W,u,ls,z,sps,L,rfl,hr,hi,hu,hs,hf,h⟩ := h
 rw [List.length_map] at hle
 unfold qfc_A qfc_G
 refine SpacesF h hs (by omega) (fun a ha => hid _ (List.mem_map_of_mem ha)) fun s is A1 hp hsl h1 => ?_
 have h1 := MacL.backX h1
 have hs4 : s.len ≤ 4 := by rw [hsl,hp.length_eq,List.length_map];exact hle
 refine ⟨fun x v m A' => x = 0 ∧ ∃ i : Nat,v = i ∧ i + m = s.len ∧ Own (MacL c F G W u ls z sps (SlAt s 1 (is.map (.int .i64)) :: famR cp c.m n L l)) A',⟨s.len,rfl,0,rfl,by omega,h1⟩,fun x v m A2 ⟨e1,i,e2,e3,h2⟩ => ?_⟩
 subst e1 e2
 refine bsel_in (fun cc => ?_) fun cc => ?_
 ·have cc : (i : Int) < s.len := of_decide_eq_true cc
  obtain ⟨d,hd⟩ : ∃ d,is[i]? = some d := ⟨is[i]'(by omega),by simp⟩
  obtain ⟨a0,q1,q2⟩ := rd_i (ids := is) (k := 7) h2 rfl reads_slat hd
  rw [q1]
  simp only [onSome_some]
  refine inB_in (by omega) cc (q2 _ ?_)
  obtain ⟨a,ha,hae⟩ := List.mem_map.1 (hp.mem_iff.1 (List.mem_of_getElem? hd))
  obtain ⟨pre,post,hL⟩ := List.append_of_mem ha
  have hra := hr a ha
  have hlk : sps.lookup d = some (ptrV a.p) := by
   subst hL
   rw [← hae]
   exact hs.mid hf.ids
  have hperm : (SlAt s 1 (is.map (.int .i64)) :: famR cp c.m n L l).Perm (a.own :: SlAt s 1 (is.map (.int .i64)) :: CpuS cp c.m n :: ((pre ++ post).map Sp.own ++ l)) := by
   subst hL
   unfold famR
   rw [List.map_append,List.map_cons,List.map_append,List.append_assoc,List.append_assoc,List.cons_append]
   refine List.Perm.trans (List.Perm.cons _ (List.Perm.cons _ List.perm_middle)) ?_
   exact (List.Perm.cons _ (List.Perm.swap _ _ _)).trans (List.Perm.swap _ _ _)
  have h3 : Own (MacL c F G W u ls z sps (a.own :: SlAt s 1 (is.map (.int .i64)) :: CpuS cp c.m n :: ((pre ++ post).map Sp.own ++ l))) A2 := MacL.mapR (fun C hC => hC.perm hperm) h2
  have hsn := OneS.some h3
  refine SpRegions_spec h3 hlk (by rw [hra.regs];simp) hsn fun s' A3 hs' h4 => ?_
  rw [hra.regs] at hs' h4
  have hs1 : s'.len = 1 := hs'
  refine ⟨fun x v m A' => x = 0 ∧ ((v = 0 ∧ m = 1) ∨ (v = 1 ∧ m = 0)) ∧ A' = A3,⟨1,rfl,.inl ⟨rfl,rfl⟩,rfl⟩,fun x v m2 A4 ⟨e4,e5,e6⟩ => ?_⟩
  subst e4 e6
  rcases e5 with ⟨e5,e7⟩ | ⟨e5,e7⟩
  ·subst e5 e7
   refine bsel_t (by rw [hs1];rfl) ⟨fun x A' => x = 0 ∧ A' = A4,fun x A5 ⟨k1,k2⟩ => ⟨0,by omega,k1,.inr ⟨rfl,rfl⟩,k2⟩,?_⟩
   obtain ⟨a5,q3,q4⟩ := rd_reg (k := 0) (v := 0) (L := [y34]) h4 rfl reads_slo rfl
   rw [q3]
   simp only [onSome_some]
   refine inB_in (by omega) (by rw [hs1];omega) (q4 _ ?_)
   exact bsel_f rfl ⟨trivial,trivial⟩
  ·subst e5 e7
   refine bsel_f (by rw [hs1];rfl) ⟨m - 1,by omega,rfl,i + 1,by rw [w64] <;> omega,by omega,?_⟩
   have h5 : Own (MacL c F G W u ls z sps (a.own :: SlAt s 1 (is.map (.int .i64)) :: CpuS cp c.m n :: ((pre ++ post).map Sp.own ++ l))) A4 := by
    have := h4.tail
    unfold Sp.own
    rw [hra.regs]
    exact this
   exact MacL.mapR (fun C hC => hC.perm hperm.symm) h5
 ·refine hk A2 ⟨F,G,W,u,ls,z,sps,L,rfl,hr,hi,hu,hs,hf,MacL.mapR (fun C hC => hC.tail) h2⟩
end Go.Dn
