/- What the proof stands on: Stale, Two. -/
import Derived.Test.YtbmolaogibmbiaaGreatLawSizes
import Derived.Test.YtbmolaogibmbiaaGreatLendT
/- No line that is kept is stale. -/
namespace Go.Dn
variable {A : AH} {l R : List SP} {P : SP} {ls ys : List Ln} {c : Mb} {u : Int} {F G : Int → Prop} {W : Int → Int → Int} {z : PcZ} {sps : List (Int × Value)} {cp n : Nat} {a : Sp} {L : List Sp} {N : Int} {s : Sl} {k : Nat}
theorem rd_lnR {v : Nat} {y : Ln} (h : Own l A) (e : l[k]? = some P) (hr : Reads P s 9 (lnC ys)) (hv : ys[v]? = some y) :
  ∃ a, s.a = some a ∧ ∀ K : Bool → Int → Int → Int → Bool → Bool → Bool → Bool → Bool → Prop, K y.v y.tag y.page y.frame y.w y.u y.x y.g y.d →
   aB (Addr.add a (Int.toNat (v : Int) * 9)) A fun b0 => aI .i64 (Addr.add (Addr.add a (Int.toNat (v : Int) * 9)) 1) A fun n1 => aI .i64 (Addr.add (Addr.add a (Int.toNat (v : Int) * 9)) 2) A fun n2 => aI .i64 (Addr.add (Addr.add a (Int.toNat (v : Int) * 9)) 3) A fun n3 =>
    aB (Addr.add (Addr.add a (Int.toNat (v : Int) * 9)) 4) A fun b4 => aB (Addr.add (Addr.add a (Int.toNat (v : Int) * 9)) 5) A fun b5 => aB (Addr.add (Addr.add a (Int.toNat (v : Int) * 9)) 6) A fun b6 => aB (Addr.add (Addr.add a (Int.toNat (v : Int) * 9)) 7) A fun b7 => aB (Addr.add (Addr.add a (Int.toNat (v : Int) * 9)) 8) A fun b8 => K b0 n1 n2 n3 b4 b5 b6 b7 b8 := by
 have at9 : ∀ c, c < 9 → (lnC ys)[v * 9 + c]? = y.cells[c]? := fun c hc => lnC_at hv hc
 obtain ⟨bb, o, q0, c0⟩ := rd_cell h e hr (j := v * 9 + 0) (v := .bool y.v) (by rw [at9 0 (by omega)]; rfl)
 refine ⟨_, q0, fun K hK => ?_⟩
 have hc : ∀ c z, c < 9 → y.cells[c]? = some z → cellA A ⟨bb, o + v * 9 + c, none⟩ = some z := fun c z hc hz => by
  obtain ⟨b2, o2, q1, c1⟩ := rd_cell h e hr (j := v * 9 + c) (by rw [at9 c hc]; exact hz)
  rw [q0] at q1
  cases q1
  rw [Nat.add_assoc]
  exact c1
 simp only [add_at, Int.toNat_natCast]
 exact ⟨_, by simpa using hc 0 _ (by omega) rfl, _, hc 1 _ (by omega) rfl, _, hc 2 _ (by omega) rfl, _, hc 3 _ (by omega) rfl, _, hc 4 _ (by omega) rfl, _, hc 5 _ (by omega) rfl, _, hc 6 _ (by omega) rfl, _, hc 7 _ (by omega) rfl, _, hc 8 _ (by omega) rfl, hK⟩
theorem stale1 {b j : Nat} {y : Ln} {id : Int} {x : Lf} {Q : Bool → AH → Prop} (h : Own (MacL c F G W u ls z sps (At b [.pointer (some ⟨c.m, 0, none⟩)] :: R)) A) (hj : R[j]? = some a.own) (hp : StdP c.N F G) (hR : Rest G W a.root a.tab a.lf a.tl) (ho : z.own.lookup y.tag = some id) (hs : sps.lookup id = some (ptrV a.p)) (hg : y.g = false) (hl : a.lf y.page = some x) (hx : y.frame = x.frame ∧ y.w = x.w ∧ y.u = x.u ∧ y.x = x.x)
  (hk : ∀ A', Own (MacL c F G W u ls z sps (At b [.pointer (some ⟨c.m, 0, none⟩)] :: R)) A' → Q true A') : qel_A y.v y.tag y.page y.frame y.w y.u y.x y.g y.d (some ⟨b, 0, none⟩) Q A := by
 unfold qel_A qel_G
 simp only [onSome_some, add_at, Nat.zero_add]
 refine ld_P (i := 7) h rfl rfl ?_
 simp only [onSome_some, add_at, Nat.zero_add]
 refine ld_P (i := 3) h rfl rfl (pOwner_spec (MacL.tags h) ?_)
 rw [ho]
 refine ld_P (i := 7) h rfl rfl ?_
 simp only [onSome_some, add_at, Nat.zero_add, Option.getD_some]
 refine ld_M (i := 3) h rfl rfl (lk_M (i := 4) h rfl ?_)
 rw [hs]
 refine ⟨some ⟨a.p, 0, none⟩, rfl, fun A' => A' = A, fun A1 e1 => ?_, bsel_f rfl (bsel_f rfl ?_)⟩
 ·subst e1
  simp only [onSome_some, add_at, Nat.zero_add]
  have hj' : (MacL c F G W u ls z sps (At b [.pointer (some ⟨c.m, 0, none⟩)] :: R))[j + 8]? = some (OneS a.p 0 a.root a.s a.regs a.lent) := hj
  refine ld_P (i := 7) h rfl rfl ?_
  refine one_box h hj' (one_root h hj' (purse_head (k := 3) h rfl ⟨one_root h hj' rfl, ?_⟩))
  refine RQuery_spec h hp.inG hR (fun hn => by rw [hl] at hn; cases hn) fun x' hx' A2 h2 => ?_
  rw [hl] at hx'
  cases hx'
  obtain ⟨x1, x2, x3, x4⟩ := hx
  refine bsel_t rfl (bsel_t (by rw [x1]; simp) ?_)
  have : ((x.w == y.w) && ((x.u == y.u) && ((x.x == y.x) && true))) = true := by rw [x2, x3, x4]; simp
  rw [this]
  exact hk A2 h2
 ·rw [hg]
  exact bsel_f rfl rfl
theorem Stale_spec {Q : Sl → AH → Prop} (h : Own (MacL c F G W u ls z sps (famR cp c.m n L l)) A) (hs : SpsOK sps L) (hf : FamOK c.N F G W z ls L) (hk : ∀ s A', s.len = 0 → Own (MacL c F G W u ls z sps (famR cp c.m n L l)) A' → Q s A') : qeo_A (some ⟨c.m, 0, none⟩) Q A := by
 unfold qeo_A qeo_G
 refine new_C (cs := [.pointer (some ⟨c.m, 0, none⟩)]) h fun b A1 h1 => ?_
 refine ld_P (i := 0) h1 rfl rfl ?_
 have h1 := MacL.backX h1
 simp only [onSome_some, add_at, Nat.zero_add]
 refine ld_P (i := 3) h1 rfl rfl ?_
 refine Lines_spec (MacL.tlb h1) fun s A2 hlen h2 => ?_
 have hlen16 : (ls.filter (·.v)).length ≤ 16 := by
  have := (TlbS.openH (MacL.tlb h1)).1
  exact Nat.le_trans (List.length_filter_le _ _) (by omega)
 have h2 : Own (SlO s 9 (lnC (ls.filter (·.v))) :: MacL c F G W u ls z sps (At b [.pointer (some ⟨c.m, 0, none⟩)] :: famR cp c.m n L l)) A2 := h2.cons fun C hC => MacL.tlbB hC
 have h2 : Own (MacL c F G W u ls z sps (At b [.pointer (some ⟨c.m, 0, none⟩)] :: SlO s 9 (lnC (ls.filter (·.v))) :: famR cp c.m n L l)) A2 := MacL.mapR (fun C hC => hC.swap) (MacL.backX h2)
 generalize hys : ls.filter (·.v) = ys at h2 hlen hlen16
 have good : ∀ y ∈ ys, ∀ {Q1 : Bool → AH → Prop} {A3 : AH}, Own (MacL c F G W u ls z sps (At b [.pointer (some ⟨c.m, 0, none⟩)] :: SlO s 9 (lnC ys) :: famR cp c.m n L l)) A3 → (∀ A', Own (MacL c F G W u ls z sps (At b [.pointer (some ⟨c.m, 0, none⟩)] :: SlO s 9 (lnC ys) :: famR cp c.m n L l)) A' → Q1 true A') →
   qel_A y.v y.tag y.page y.frame y.w y.u y.x y.g y.d (some ⟨b, 0, none⟩) Q1 A3 := fun y hy Q1 A3 h3 hq => by
  rw [← hys] at hy
  obtain ⟨hy1, hy2⟩ := List.mem_filter.1 hy
  obtain ⟨g1, x, g2, g3⟩ := hf.ln y hy1 hy2
  unfold vw at g2
  cases e : z.own.lookup y.tag with
  | none => rw [e] at g2; cases g2
  | some id =>
   rw [e] at g2
   have g2 : lfOf L id y.page = some x := g2
   unfold lfOf at g2
   cases e2 : L.find? (fun a => a.id == id) with
   | none => rw [e2] at g2; cases g2
   | some a =>
    rw [e2] at g2
    have ha := List.mem_of_find?_eq_some e2
    obtain ⟨j, hj⟩ := List.mem_iff_getElem?.1 ha
    have hj2 : (SlO s 9 (lnC ys) :: famR cp c.m n L l)[j + 2]? = some a.own := by
     show (L.map Sp.own ++ l)[j]? = some a.own
     rw [List.getElem?_append_left (by simp; exact (List.getElem?_eq_some_iff.1 hj).1), List.getElem?_map, hj]; rfl
    exact stale1 h3 hj2 hf.std (hf.rest a ha) e (by rw [hs, e2]; rfl) g1 g2 g3 hq
 have fin : ∀ {A3 : AH}, Own (MacL c F G W u ls z sps (At b [.pointer (some ⟨c.m, 0, none⟩)] :: SlO s 9 (lnC ys) :: famR cp c.m n L l)) A3 → Own (MacL c F G W u ls z sps (famR cp c.m n L l)) A3 := fun h3 => MacL.mapR (fun C hC => hC.tail.tail) h3
 have rdy : ∀ {A3 : AH} {v : Nat}, Own (MacL c F G W u ls z sps (At b [.pointer (some ⟨c.m, 0, none⟩)] :: SlO s 9 (lnC ys) :: famR cp c.m n L l)) A3 → (v : Int) < s.len → ∃ y, ys[v]? = some y ∧ y ∈ ys := fun {A3 v} h3 hv => ⟨ys[v]'(by omega), by simp, List.getElem_mem _⟩
 unfold qen_A qen_G qem_A qem_G
 refine ⟨fun x m A' => x = 0 ∧ Own (MacL c F G W u ls z sps (At b [.pointer (some ⟨c.m, 0, none⟩)] :: SlO s 9 (lnC ys) :: famR cp c.m n L l)) A', ⟨0, rfl, h2⟩, fun x m A3 ⟨e1, h3⟩ => ?_⟩
 subst e1
 refine bsel_in (fun cc => ?_) fun cc => ?_
 ·have cc : (0 : Int) < s.len := of_decide_eq_true cc
  obtain ⟨y, hy, hym⟩ := rdy (v := 0) h3 cc
  obtain ⟨a0, q1, q2⟩ := rd_lnR (k := 8) h3 rfl (reads_slC (s := s)) hy
  rw [q1]
  simp only [onSome_some]
  refine inB_in (by omega) cc (q2 _ ?_)
  refine good y hym h3 fun A4 h4 => bsel_t rfl (bsel_f rfl ?_)
  refine ⟨fun x v m A' => x = 0 ∧ ∃ i : Nat, v = i ∧ i + m = s.len ∧ Own (MacL c F G W u ls z sps (At b [.pointer (some ⟨c.m, 0, none⟩)] :: SlO s 9 (lnC ys) :: famR cp c.m n L l)) A', ⟨s.len - 1, rfl, 1, rfl, by omega, h4⟩, fun x v m A5 ⟨e1, i, e2, e3, h5⟩ => ?_⟩
  subst e1 e2
  refine bsel_in (fun c2 => ?_) fun c2 => ?_
  ·have c2 : (i : Int) < s.len := of_decide_eq_true c2
   obtain ⟨y2, hy2, hym2⟩ := rdy (v := i) h5 c2
   obtain ⟨a2, q3, q4⟩ := rd_lnR (k := 8) h5 rfl (reads_slC (s := s)) hy2
   refine ⟨fun x A' => x = 0 ∧ Own (MacL c F G W u ls z sps (At b [.pointer (some ⟨c.m, 0, none⟩)] :: SlO s 9 (lnC ys) :: famR cp c.m n L l)) A', fun x A6 ⟨e4, h6⟩ => ⟨m - 1, by omega, e4, i + 1, by rw [w64] <;> omega, by omega, h6⟩, ?_⟩
   rw [q1] at q3
   cases q3
   refine inB_in (by omega) c2 (q4 _ ?_)
   exact good y2 hym2 h5 fun A6 h6 => bsel_f rfl ⟨rfl, h6⟩
  ·refine inB_in (by omega) (by omega) ?_
   have hcap : s.cap ≠ 0 := by
    have h6 : Own (SlO s 9 (lnC ys) :: MacL c F G W u ls z sps (At b [.pointer (some ⟨c.m, 0, none⟩)] :: famR cp c.m n L l)) A5 := by
     unfold MacL StdO at h5 ⊢
     exact h5.pick 8 rfl
    have := h6.capS6
    omega
   have h6 : Own (SlO s 9 (lnC ys) :: MacL c F G W u ls z sps (At b [.pointer (some ⟨c.m, 0, none⟩)] :: famR cp c.m n L l)) A5 := by
    unfold MacL StdO at h5 ⊢
    exact h5.pick 8 rfl
   have hle := h6.capS6
   obtain ⟨b2, rest, ha2, hc2⟩ : ∃ b2 rest, s.a = some ⟨b2, 0, none⟩ ∧ Own (At b2 (lnC ys ++ rest) :: MacL c F G W u ls z sps (At b [.pointer (some ⟨c.m, 0, none⟩)] :: famR cp c.m n L l)) A5 := by
    obtain ⟨_, h7⟩ := h6.pure
    have h8 : Own ((fun B => ∃ b rest, s.a = some ⟨b, 0, none⟩ ∧ At b (lnC ys ++ rest) B) :: MacL c F G W u ls z sps (At b [.pointer (some ⟨c.m, 0, none⟩)] :: famR cp c.m n L l)) A5 := h7.imp fun B hB => by
     rcases hB with hB | ⟨b', r', e1, _, e3⟩
     ·exact absurd hB hcap
     ·exact ⟨b', r', e1, e3⟩
    obtain ⟨b2, h8⟩ := h8.ex
    obtain ⟨rest, h8⟩ := h8.ex
    obtain ⟨ha, h8⟩ := h8.pure
    exact ⟨b2, rest, ha, h8⟩
   have hsl : (if s.cap = Int.toNat (0 : Int) then (some a0) else Option.map (fun x => Addr.add x (Int.toNat (0 : Int) * 9)) (some a0)) = some ⟨b2, 0, none⟩ := by
    rw [← q1, if_neg (by simpa using hcap), ha2]
    rfl
   rw [hsl]
   show aStL (Builtin.zeroCells _ _).toList (Addr.add ⟨b2, 0, none⟩ 0) 0 A5 _
   rw [add_at, Nat.zero_add]
   have hc2 : Own (At b2 ([] ++ lnC ys ++ rest) :: MacL c F G W u ls z sps (At b [.pointer (some ⟨c.m, 0, none⟩)] :: famR cp c.m n L l)) A5 := hc2
   refine stL_spec _ 0 A5 [] (lnC ys) rest _ hc2 ?_ rfl (zeroCells_one (fun v hv => ?_)) fun A6 h7 => ?_
   ·have hz := zeroCells_len (z := #[.bool false, .int .i64 (0 : Int), .int .i64 (0 : Int), .int .i64 (0 : Int), .bool false, .bool false, .bool false, .bool false, .bool false]) (n := s.len - Int.toNat (0 : Int))
    show (lnC ys).length = Array.size _
    rw [hz, lnC_len]
    show ys.length * 9 = (s.len - 0) * 9
    omega
   ·simp at hv
    rcases hv with rfl | rfl | rfl <;> rfl
   ·exact inB_in (by omega) (by omega) (hk _ A6 rfl (MacL.mapR (fun C hC => hC.tail) h7.tail))
 ·have cc : ¬(0 : Int) < s.len := of_decide_eq_false cc
  exact bsel_t rfl (hk s A3 (by omega) (fin h3))
end Go.Dn
/- Two spaces: what one lends to the other. -/
namespace Go.Dn
variable {A : AH} {l R : List SP} {ls : List Ln} {c : Mb} {u : Int} {F G : Int → Prop} {W : Int → Int → Int} {z : PcZ} {sps : List (Int × Value)} {cp n : Nat} {a b : Sp} {pre post : List Sp}
theorem DoT {addr x0 : Int} {aw : Bool} {y : Reg} {x : Lf} {Q : Int → Int → Int → Int → AH → Prop} (h : Own (MacL c F G W u ls z sps (famR cp c.m n (pre ++ a :: post) l)) A) (hs : SpsOK sps (pre ++ a :: post)) (hf : FamOK c.N F G W z ls (pre ++ a :: post))
  (hu : 0 ≤ u ∧ u + 5 ≤ c.N) (hN : c.N ≤ 262144) (ha : 0 ≤ addr ∧ addr < 140737488355328) (hd : addr % 8 = 0) (hy : findR a.regs (addr / 4096) = some y) (hm : mayZ y.w y.u y.x aw true false = true) (hx : a.lf (addr / 4096) = some x) (hU : U64 (W x.frame (addr % 4096 / 8)))
  (hkl : aw = false → ∀ W' ls' z' A', FamOK c.N F G W' z' ls' (pre ++ a :: post) → (∀ g, G g → g ∉ a.tl → W' g = W g) → Own (MacL c F G W' u ls' z' sps (famR cp c.m n (pre ++ a :: post) l)) A' → Q (W x.frame (addr % 4096 / 8)) 0 0 0 A')
  (hks : aw = true → U64 x0 → ∀ W' ls' z' A', FamOK c.N F G W' z' ls' (pre ++ a :: post) → (∀ g, G g → g ∉ a.tl → W' g = setW W x.frame (addr % 4096 / 8) x0 g) → Own (MacL c F G W' u ls' z' sps (famR cp c.m n (pre ++ a :: post) l)) A' → Q 0 0 0 0 A') (hU0 : U64 x0) :
  qds_A (some ⟨cp, 0, none⟩) a.id addr 8 aw x0 Q A := by
 have ham : a ∈ pre ++ a :: post := mem_mid.2 (.inl rfl)
 obtain ⟨k1, k2⟩ := hf.leafG a ham _ x hx
 have h8 : (addr % 4096 % 8).toNat = 0 := by omega
 refine DoF (size := 8) h hs hf hu hN ha (by omega) hd (fun hn => ?_) (fun e y' hy' _ x' F' G' W' u' tab' lf' tl' ls' z' A' hG hf' hs' hA => ?_) fun e y' hy' _ x' F' G' W' u' tab' lf' tl' ls' z' A' hG hf' hs' hA => ?_
 ·have := hn y hy
  rw [hm] at this; cases this
 ·obtain ⟨e1, e2, e3, e4, e5, e6⟩ := hG.same (by rw [hx]; simp)
  have hl := hG.leaf
  rw [e5, hx] at hl
  cases hl
  have hkp := hG.keep
  subst e1 e2 e3 e4 e5 e6
  rw [hkp _ k1 (k2 a ham), h8, get_all hU]
  exact hkl e W' ls' z' A' hf' hkp hA
 ·obtain ⟨e1, e2, e3, e4, e5, e6⟩ := hG.same (by rw [hx]; simp)
  have hl := hG.leaf
  rw [e5, hx] at hl
  cases hl
  have hkp := hG.keep
  subst e1 e2 e3 e4 e5 e6
  rw [hkp _ k1 (k2 a ham), h8, put_all hU hU0] at hA hf'
  refine hks e hU0 _ ls' z' A' hf' (fun g g1 g2 => ?_) hA
  funext i
  unfold setW
  rw [hkp g g1 g2]
theorem Own.two {P1 P2 P3 : SP} (h : Own (P1 :: P2 :: P3 :: l) A) : Own (P3 :: P2 :: P1 :: l) A := h.perm (((List.Perm.swap P2 P1 (P3 :: l)).trans (List.Perm.cons P2 (List.Perm.swap P3 P1 l))).trans (List.Perm.swap P3 P2 (P1 :: l)))
def Sp.lends (a : Sp) (lent : List (Int × Int)) : Sp := { a with lent := lent }
def Sp.bor (b : Sp) (s : Sl) (regs : List Reg) (tab : Tab) (lf : Int → Option Lf) (tl : List Int) : Sp := { b with s := s, regs := regs, tab := tab, lf := lf, tl := tl }
theorem two_ids {a' b' : Sp} (ha : a'.id = a.id) (hb : b'.id = b.id) (h : (([b, a] : List Sp).map (·.id)).Nodup) : (([b', a'] : List Sp).map (·.id)).Nodup := by simpa [ha, hb] using h
theorem two_sps {a' b' : Sp} (ha : a'.id = a.id) (hb : b'.id = b.id) (hpa : a'.p = a.p) (hpb : b'.p = b.p) (hs : SpsOK sps [b, a]) : SpsOK sps [b', a'] := fun id => by
 rw [hs id]
 simp only [List.find?_cons, List.find?_nil, ha, hb]
 cases (b.id == id) <;> cases (a.id == id) <;> simp [hpa, hpb]
theorem lf2 {id : Int} : lfOf [b, a] id = if b.id = id then b.lf else if a.id = id then a.lf else fun _ => none := by
 unfold lfOf
 simp only [List.find?_cons, List.find?_nil]
 by_cases h1 : b.id = id
 ·have : (b.id == id) = true := by simpa using h1
  rw [this, if_pos h1]
 ·have : (b.id == id) = false := by simpa using h1
  rw [this, if_neg h1]
  by_cases h2 : a.id = id
  ·have : (a.id == id) = true := by simpa using h2
   rw [this, if_pos h2]
  ·have : (a.id == id) = false := by simpa using h2
   rw [this, if_neg h2]
theorem LendF {page at_ : Int} {y : Reg} {x : Lf} {Q : Int → AH → Prop} (h : Own (MacL c F G W u ls z sps (famR cp c.m n [b, a] l)) A) (hs : SpsOK sps [b, a]) (hf : FamOK c.N F G W z ls [b, a]) (hal : a.lent = []) (hbs : b.s = Sl.nil) (hbr : b.regs = []) (hbl : ∀ q, b.lf q = none)
  (hy : findR a.regs page = some y) (hyk : y.k = 0) (hyw : y.w = true) (hx : a.lf page = some x) (hat : 0 ≤ at_ ∧ at_ < 34359738368) (hu : 0 ≤ u ∧ u + 4 ≤ c.N) (hN : c.N ≤ 262144)
  (hk : ∀ F' G' W' u' tab' tl' s' A', SpsOK sps [b.bor s' [⟨at_, at_ + 1, true, true, false, 1⟩] tab' (setL b.lf at_ (some ⟨x.frame, true, true, false⟩)) tl', a.lends [(page, 1)]] →
   FamOK c.N F' G' W' z ls [b.bor s' [⟨at_, at_ + 1, true, true, false, 1⟩] tab' (setL b.lf at_ (some ⟨x.frame, true, true, false⟩)) tl', a.lends [(page, 1)]] → (∀ g, G g → G' g) → (∀ g, G g → g ∉ b.tl → W' g = W g) → u' = u + ((tl'.length : Int) - b.tl.length) → b.tl.length ≤ tl'.length → tl'.length ≤ b.tl.length + 3 →
   Own (MacL c F' G' W' u' ls z sps (famR cp c.m n [b.bor s' [⟨at_, at_ + 1, true, true, false, 1⟩] tab' (setL b.lf at_ (some ⟨x.frame, true, true, false⟩)) tl', a.lends [(page, 1)]] l)) A' → Q 0 A') :
  qdv_A (some ⟨c.m, 0, none⟩) a.id page b.id at_ true true false Q A := by
 have ham : a ∈ [b, a] := by simp
 have hbm : b ∈ [b, a] := by simp
 have hne : b.id ≠ a.id := by have := hf.ids; simpa using this
 have hFG := (bud_apart h.tail).1
 have h1 : Own (MacL c F G W u ls z sps (a.own :: b.own :: CpuS cp c.m n :: l)) A := MacL.mapR (fun C hC => Own.two hC) h
 unfold Sp.own at h1
 rw [hal, hbs, hbr] at h1
 obtain ⟨kx1, kx2⟩ := hf.leafG a ham page x hx
 have hsa : sps.lookup a.id = some (ptrV a.p) := hs.mid (pre := [b]) (post := []) hf.ids
 have hsb : sps.lookup b.id = some (ptrV b.p) := hs.mid (pre := []) (post := [a]) hf.ids
 have hneed : needT b.tab at_ ≤ 3 := by unfold needT; split <;> split <;> split <;> omega
 refine Lend_spec (pw := true) (pu := true) h1 hsa hsb hf.std (by omega) (hf.rest a ham) (hf.rest b hbm) (hf.rl a ham).1 hy hyk hu hat (hbl at_) (fun x' hx' => (hf.leafG a ham page x' hx').1) (fun hn => by rw [hx] at hn; cases hn) (fun _ _ _ hw => by rw [hyw] at hw; cases hw) fun x' hx' _ tk W' tab' s' A' hlen htk hp' hR' hW' hs' hA => ?_
 rw [hx] at hx'
 cases hx'
 have hA2 : Own (MacL c (fun x => F x ∧ x ∉ tk) (fun x => G x ∨ x ∈ tk) W' (u + tk.length) ls z sps ((a.lends [(page, 1)]).own :: (b.bor s' [⟨at_, at_ + 1, true, true, false, 1⟩] tab' (setL b.lf at_ (some ⟨x.frame, true, true, false⟩)) (b.tl ++ tk)).own :: CpuS cp c.m n :: l)) A' := hA
 have hkeep : ∀ g, G g → g ∉ b.tl → W' g = W g := fun g g1 g2 => hW' g (fun q => hFG g (htk g q) g1) g2
 refine hk _ _ W' _ tab' (b.tl ++ tk) s' A' (two_sps (a := a) (b := b) rfl rfl rfl rfl hs) ⟨hp', fun d hd => ?_, two_ids (a := a) (b := b) rfl rfl hf.ids, fun d hd e he hde f hfd => ?_, fun d hd q x' hx' => ?_, fun d hd q x' hx' => ?_, fun d hd => ?_, hf.pc, ?_⟩ (fun g hg => .inl hg) hkeep (by simp; omega) (by simp) (by simp; omega) (MacL.mapR (fun C hC => Own.two hC) hA2)
 ·simp only [List.mem_cons, List.not_mem_nil, or_false] at hd
  rcases hd with rfl | rfl
  ·exact hR'
  ·exact (hf.rest a ham).keep (fun f hf1 => hkeep f ((hf.rest a ham).inG f hf1) (hf.apart a ham b hbm (Ne.symm hne) f hf1)) fun f hf1 => .inl ((hf.rest a ham).inG f hf1)
 ·simp only [List.mem_cons, List.not_mem_nil, or_false] at hd he
  rcases hd with rfl | rfl <;> rcases he with rfl | rfl
  ·exact absurd rfl hde
  ·rcases List.mem_append.1 hfd with q | q
   ·exact hf.apart b hbm a ham hne f q
   ·exact fun q2 => hFG f (htk f q) ((hf.rest a ham).inG f q2)
  ·intro q
   rcases List.mem_append.1 q with q | q
   ·exact hf.apart a ham b hbm (Ne.symm hne) f hfd q
   ·exact hFG f (htk f q) ((hf.rest a ham).inG f hfd)
  ·exact absurd rfl hde
 ·have key : ∀ f, G f → f ∉ a.tl → f ∉ b.tl → (G f ∨ f ∈ tk) ∧ ∀ e ∈ [b.bor s' [⟨at_, at_ + 1, true, true, false, 1⟩] tab' (setL b.lf at_ (some ⟨x.frame, true, true, false⟩)) (b.tl ++ tk), a.lends [(page, 1)]], f ∉ e.tl := fun f f1 f2 f3 => ⟨.inl f1, fun e he => by
   simp only [List.mem_cons, List.not_mem_nil, or_false] at he
   rcases he with rfl | rfl
   ·intro q
    rcases List.mem_append.1 q with q | q
    ·exact f3 q
    ·exact hFG f (htk f q) f1
   ·exact f2⟩
  simp only [List.mem_cons, List.not_mem_nil, or_false] at hd
  rcases hd with rfl | rfl
  ·have hx' : setL b.lf at_ (some ⟨x.frame, true, true, false⟩) q = some x' := hx'
   unfold setL at hx'
   split at hx'
   ·cases hx'
    exact key _ kx1 (kx2 a ham) (kx2 b hbm)
   ·rw [hbl] at hx'; cases hx'
  ·obtain ⟨j1, j2⟩ := hf.leafG a ham q x' hx'
   exact key _ j1 (j2 a ham) (j2 b hbm)
 ·simp only [List.mem_cons, List.not_mem_nil, or_false] at hd
  rcases hd with rfl | rfl
  ·have hx' : setL b.lf at_ (some ⟨x.frame, true, true, false⟩) q = some x' := hx'
   unfold setL at hx'
   split at hx'
   ·rename_i eq
    cases hx'
    exact ⟨⟨at_, at_ + 1, true, true, false, 1⟩, find_one (y := ⟨at_, at_ + 1, true, true, false, 1⟩) (by simp only; omega) (by simp only; omega), rfl, rfl, rfl⟩
   ·rw [hbl] at hx'; cases hx'
  ·exact hf.reg a ham q x' hx'
 ·simp only [List.mem_cons, List.not_mem_nil, or_false] at hd
  rcases hd with rfl | rfl
  ·refine ⟨by simp [Sp.bor], fun y' hy' => ?_⟩
   simp [Sp.bor] at hy'
   subst hy'
   exact ⟨hat.1, by simp only; omega⟩
  ·exact hf.rl a ham
 ·refine hf.ln.mono fun id q x' hx' => ?_
  rw [lf2] at hx'
  rw [lf2]
  by_cases e1 : b.id = id
  ·rw [if_pos e1, hbl] at hx'; cases hx'
  ·rw [if_neg e1] at hx'
   rw [if_neg (show ¬(b.bor s' [⟨at_, at_ + 1, true, true, false, 1⟩] tab' (setL b.lf at_ (some ⟨x.frame, true, true, false⟩)) (b.tl ++ tk)).id = id from e1)]
   exact hx'
theorem back_sub {gl tl' tl : List Int} {G G' : Int → Prop} {W W' : Int → Int → Int} {root : Int} {tab tab' : Tab} {lf lf' : Int → Option Lf} (_hlen : tl'.length + gl.length = tl.length) (_hgl : ∀ y ∈ gl, y ∈ tl) (hR' : Rest G' W' root tab' lf' tl') (hR : Rest G W root tab lf tl) (hn : ∀ q, lf' q = none) : ∀ f ∈ tl', f ∈ tl := fun f hf => by
 rw [hR'.bare hn] at hf
 have : f = root := by simpa using hf
 rw [this]
 exact (hR.mem root).2 ⟨0, 0, (hR.T.root 0 root).2 ⟨rfl, rfl⟩⟩
theorem BackF {page at_ : Int} {y : Reg} {x w : Lf} {Q : Int → AH → Prop} (h : Own (MacL c F G W u ls z sps (famR cp c.m n [b, a] l)) A) (hs : SpsOK sps [b, a]) (hf : FamOK c.N F G W z ls [b, a]) (hal : a.lent = [(page, 1)]) (hbr : b.regs = [y]) (hbl : ∀ q, q ≠ at_ → b.lf q = none)
  (hya : y.a = at_) (hyb : y.b = at_ + 1) (hyk : y.k = 1) (hx : a.lf page = some x) (hw : b.lf at_ = some w) (hfr : x.frame = w.frame) (hat : 0 ≤ at_ ∧ at_ < 34359738368) (hu : b.tl.length ≤ u)
  (hk : ∀ F' G' W' u' tab' tl' s' ls' A', SpsOK sps [b.bor s' [] tab' (setL b.lf at_ none) tl', a.lends []] → FamOK c.N F' G' W' z ls' [b.bor s' [] tab' (setL b.lf at_ none) tl', a.lends []] → (∀ g, G g → g ∉ b.tl → W' g = W g ∧ G' g) → 0 ≤ u' → u' ≤ u →
   Own (MacL c F' G' W' u' ls' z sps (famR cp c.m n [b.bor s' [] tab' (setL b.lf at_ none) tl', a.lends []] l)) A' → Q 0 A') :
  qei_A (some ⟨c.m, 0, none⟩) a.id page b.id at_ Q A := by
 have ham : a ∈ [b, a] := by simp
 have hbm : b ∈ [b, a] := by simp
 have hne : b.id ≠ a.id := by have := hf.ids; simpa using this
 have h1 : Own (MacL c F G W u ls z sps (a.own :: b.own :: CpuS cp c.m n :: l)) A := MacL.mapR (fun C hC => Own.two hC) h
 unfold Sp.own at h1
 rw [hal, hbr] at h1
 have hsa : sps.lookup a.id = some (ptrV a.p) := hs.mid (pre := [b]) (post := []) hf.ids
 have hsb : sps.lookup b.id = some (ptrV b.p) := hs.mid (pre := []) (post := [a]) hf.ids
 refine BackT_spec h1 hsa hsb hf.std (hf.rest a ham) (hf.rest b hbm) hu hya hyb hyk hat hx hw hfr fun gl W' tab' tl' s' ls' A' hls hgl hlen hp' hR' hW' hA => ?_
 have hA2 : Own (MacL c (fun y => F y ∨ y ∈ gl) (fun y => G y ∧ y ∉ gl) W' (u - gl.length) ls' z sps ((a.lends []).own :: (b.bor s' [] tab' (setL b.lf at_ none) tl').own :: CpuS cp c.m n :: l)) A' := hA
 have hnone : ∀ q, setL b.lf at_ none q = none := fun q => by
  unfold setL
  split
  ·rfl
  ·rename_i e; exact hbl q e
 refine hk _ _ W' _ tab' tl' s' ls' A' (two_sps (a := a) (b := b) rfl rfl rfl rfl hs) ⟨hp', fun d hd => ?_, two_ids (a := a) (b := b) rfl rfl hf.ids, fun d hd e he hde f hfd => ?_, fun d hd q x' hx' => ?_, fun d hd q x' hx' => ?_, fun d hd => ?_, hf.pc, ?_⟩ (fun g g1 g2 => ⟨hW' g g2, g1, fun q => g2 (hgl g q)⟩) (by omega) (by omega) (MacL.mapR (fun C hC => Own.two hC) hA2)
 ·simp only [List.mem_cons, List.not_mem_nil, or_false] at hd
  rcases hd with rfl | rfl
  ·exact hR'
  ·refine (hf.rest a ham).keep (fun f hf1 => hW' f (hf.apart a ham b hbm (Ne.symm hne) f hf1)) fun f hf1 => ⟨(hf.rest a ham).inG f hf1, fun q => hf.apart a ham b hbm (Ne.symm hne) f hf1 (hgl f q)⟩
 ·have hsub : ∀ f ∈ tl', f ∈ b.tl ∨ False := fun f hf2 => by
   have hw1 : W' f = W' f := rfl
   by_cases q : f ∈ b.tl
   ·exact .inl q
   ·exact .inr (q (back_sub hlen hgl hR' (hf.rest b hbm) hnone f hf2))
  simp only [List.mem_cons, List.not_mem_nil, or_false] at hd he
  rcases hd with rfl | rfl <;> rcases he with rfl | rfl
  ·exact absurd rfl hde
  ·rcases hsub f hfd with q | q
   ·exact hf.apart b hbm a ham hne f q
   ·exact q.elim
  ·intro q
   rcases hsub f q with q | q
   ·exact hf.apart a ham b hbm (Ne.symm hne) f hfd q
   ·exact q
  ·exact absurd rfl hde
 ·simp only [List.mem_cons, List.not_mem_nil, or_false] at hd
  rcases hd with rfl | rfl
  ·have hx' : setL b.lf at_ none q = some x' := hx'
   rw [hnone] at hx'; cases hx'
  ·obtain ⟨j1, j2⟩ := hf.leafG a ham q x' hx'
   refine ⟨⟨j1, fun q2 => j2 b hbm (hgl _ q2)⟩, fun e he => ?_⟩
   simp only [List.mem_cons, List.not_mem_nil, or_false] at he
   rcases he with rfl | rfl
   ·exact fun q2 => j2 b hbm (back_sub hlen hgl hR' (hf.rest b hbm) hnone _ q2)
   ·exact j2 a ham
 ·simp only [List.mem_cons, List.not_mem_nil, or_false] at hd
  rcases hd with rfl | rfl
  ·have hx' : setL b.lf at_ none q = some x' := hx'
   rw [hnone] at hx'; cases hx'
  ·exact hf.reg a ham q x' hx'
 ·simp only [List.mem_cons, List.not_mem_nil, or_false] at hd
  rcases hd with rfl | rfl
  ·exact ⟨by simp [Sp.bor], fun y' hy' => by simp [Sp.bor] at hy'⟩
  ·exact hf.rl a ham
 ·refine hf.ln.forget hf.pc hls fun id q hq => ?_
  rw [lf2, lf2]
  have eb : (b.bor s' [] tab' (setL b.lf at_ none) tl').id = b.id := rfl
  rw [eb]
  by_cases e1 : b.id = id
  ·rw [if_pos e1, if_pos e1]
   show setL b.lf at_ none q = b.lf q
   unfold setL
   rcases hq with hq | hq
   ·exact absurd e1.symm hq
   ·rw [if_neg hq]
  ·rw [if_neg e1, if_neg e1]; rfl
end Go.Dn
