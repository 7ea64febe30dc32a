/- What the proof stands on: Forget, LendT. -/
import Derived.Test.YtbmolaogibmbiaaGreatLawSizes
import Derived.Test.YtbmolaogibmbiaaGreatLend2
/- What is kept of a space's page, or of a space, is forgotten. -/
namespace Go.Dn
variable {A : AH} {l R : List SP} {p : Nat} {ls : List Ln}
def pageF (tag page : Int) (y : Ln) : Ln := if fitsB tag page y = true then ln0 else y
theorem PageT_spec {tag page : Int} {Q : AH → Prop} (h : Own (TlbS p ls :: R) A) (hk : ∀ A', Own (TlbS p (ls.map (pageF tag page)) :: R) A' → Q A') : qeb_A (some ⟨p, 0, none⟩) tag page Q A := by
 obtain ⟨hl, h⟩ := TlbS.openH h
 unfold qeb_A qeb_G qea_A qea_G
 refine new_C (cs := [.int .i64 tag]) h fun b1 A0 h0 => ?_
 refine new_C (cs := [.int .i64 page]) h0 fun b A1 h1 => ?_
 have h1 := Own.rot3 h1
 refine ⟨fun x mm A' => ∃ i : Nat, x = i ∧ mm + i = 8 ∧ Own (At p (lnC (doneL (pageF tag page) (i * 2) ls)) :: At b [.int .i64 page] :: At b1 [.int .i64 tag] :: R) A', ⟨8, 0, rfl, rfl, by simpa [doneL_zero] using h1⟩, ?_⟩
 intro x mm A2 ⟨i, e1, e2, h2⟩
 subst e1
 refine bsel_in (fun c => ?_) fun c => ?_
 ·have c : (i : Int) < 8 := of_decide_eq_true c
  refine ⟨fun x m2 A' => ∃ j : Nat, x = j ∧ m2 + j = 2 ∧ Own (At p (lnC (doneL (pageF tag page) (i * 2 + j) ls)) :: At b [.int .i64 page] :: At b1 [.int .i64 tag] :: R) A', ⟨2, 0, rfl, rfl, h2⟩, ?_⟩
  intro x m2 A3 ⟨j, e3, e4, h3⟩
  subst e3
  refine bsel_in (fun c2 => ?_) fun c2 => ?_
  ·have c2 : (j : Int) < 2 := of_decide_eq_true c2
   obtain ⟨y, hy⟩ : ∃ y, ls[i * 2 + j]? = some y := ⟨ls[i * 2 + j]'(by omega), by simp⟩
   refine ⟨fun A' => Own (At p (lnC (doneL (pageF tag page) (i * 2 + (j + 1)) ls)) :: At b [.int .i64 page] :: At b1 [.int .i64 tag] :: R) A', fun A4 h4 => ⟨m2 - 1, by omega, j + 1, by rw [w64] <;> omega, by omega, h4⟩, ?_⟩
   simp only [onSome_some, add_at, Nat.zero_add, Int.toNat_natCast]
   refine inB_in (by omega) c (inB_in (by omega) c2 ?_)
   refine rd_ln (i := 0) (k := i * 2 + j) h3 rfl (doneL_at hy) (by omega) ?_
   unfold qdz_A qdz_G qcs_A
   simp only [onSome_some]
   refine ld_I (i := 2) h3 rfl rfl (ld_I (i := 1) h3 rfl rfl ?_)
   have keep : fitsB tag page y = false → Own (At p (lnC (doneL (pageF tag page) (i * 2 + (j + 1)) ls)) :: At b [.int .i64 page] :: At b1 [.int .i64 tag] :: R) A3 := fun g => by
    rw [← Nat.add_assoc, doneL_same hy (by unfold pageF; rw [g]; rfl)]; exact h3
   have go : fitsB tag page y = true → _ := fun g => inB_in (by omega) c (inB_in (by omega) c2 (wr_ln (m := ln0) (K := fun A' => Own (At p (lnC (doneL (pageF tag page) (i * 2 + (j + 1)) ls)) :: At b [.int .i64 page] :: At b1 [.int .i64 tag] :: R) A') h3 (doneL_at hy) (o := i * 18 + j * 9) (by omega) fun A4 h4 => by
    have e : pageF tag page y = ln0 := by unfold pageF; rw [if_pos g]
    rw [← e, doneL_step hy, Nat.add_assoc] at h4
    exact h4))
   refine bsel_in (fun a1 => bsel_in (fun a2 => bsel_in (fun a3 => bsel_t rfl (go (by unfold fitsB; rw [a1, a2, a3]; rfl))) fun a3 => ?_) fun a2 => bsel_f rfl (keep (by unfold fitsB; rw [a1, a2]; rfl))) fun a1 => bsel_f rfl (keep (by unfold fitsB; rw [a1]; rfl))
   exact bsel_in (fun a4 => go (by unfold fitsB; rw [a1, a2, a3, a4]; rfl)) fun a4 => keep (by unfold fitsB; rw [a1, a2, a3, a4]; rfl)
  ·have c2 : ¬(j : Int) < 2 := of_decide_eq_false c2
   have hj : j = 2 := by omega
   subst hj
   exact ⟨mm - 1, by omega, i + 1, by rw [w64] <;> omega, by omega, by rw [show (i + 1) * 2 = i * 2 + 2 by omega]; exact h3⟩
 ·have c : ¬(i : Int) < 8 := of_decide_eq_false c
  have hi : i = 8 := by omega
  subst hi
  rw [doneL_all _ (by omega)] at h2
  exact hk A2 (TlbS.closeH (by simpa using hl) (h2.cons fun C hC => hC.tail.tail))
variable {c : Mb} {u : Int} {F G : Int → Prop} {W : Int → Int → Int} {z : PcZ} {sps : List (Int × Value)} {LF LF' : Vw}
def ForL (z : PcZ) (id page : Int) (ls ls' : List Ln) : Prop := ∀ y ∈ ls', y.v = true → y ∈ ls ∧ ¬(z.tag.lookup id = some y.tag ∧ y.page = page)
theorem forget_spec {id page : Int} {Q : AH → Prop} (h : Own (MacL c F G W u ls z sps l) A) (hk : ∀ ls' A', ForL z id page ls ls' → Own (MacL c F G W u ls' z sps l) A' → Q A') : qec_A (some ⟨c.m, 0, none⟩) id page Q A := by
 unfold qec_A qec_G
 simp only [onSome_some, add_at, Nat.zero_add]
 refine ld_P (i := 3) h rfl rfl (pTag_spec (MacL.tags h) ?_)
 cases e : z.tag.lookup id with
 | none => exact bsel_f rfl (hk ls A (fun y hy _ => ⟨hy, fun q => by rw [e] at q; cases q.1⟩) h)
 | some t =>
  simp only [Option.getD_some]
  refine bsel_t rfl (ld_P (i := 3) h rfl rfl ?_)
  refine PageT_spec (MacL.tlb h) fun A1 h1 => hk _ A1 (fun y hy hv => ?_) (MacL.tlbB h1)
  obtain ⟨y0, h0, rfl⟩ := List.mem_map.1 hy
  unfold pageF at hv ⊢
  by_cases g : fitsB t page y0 = true
  ·rw [if_pos g] at hv; cases hv
  ·rw [if_neg g] at hv ⊢
   refine ⟨h0, fun ⟨q1, q2⟩ => g ?_⟩
   rw [e] at q1
   cases q1
   unfold fitsB
   simp [hv, q2]
theorem LnOK.forget {id page : Int} {ls' : List Ln} (hz : PcOK z) (hl : LnOK (vw z LF) ls) (h : ForL z id page ls ls') (hLF : ∀ i q, (i ≠ id ∨ q ≠ page) → LF' i q = LF i q) : LnOK (vw z LF') ls' := fun y hy hv => by
 obtain ⟨k1, k2⟩ := h y hy hv
 obtain ⟨h1, x, h2, h3⟩ := hl y k1 hv
 refine ⟨h1, x, ?_, h3⟩
 unfold vw at h2 ⊢
 cases e : z.own.lookup y.tag with
 | none => rw [e] at h2; cases h2
 | some id' =>
  rw [e] at h2
  show LF' id' y.page = some x
  rw [hLF id' y.page]
  ·exact h2
  ·by_cases g : id' = id
   ·subst g
    exact .inr fun q => k2 ⟨hz.back _ _ e, q⟩
   ·exact .inl g
theorem pOwner_spec {t : Int} {tg : Nat} {R : List SP} {Q : Int → Bool → AH → Prop} (h : Own (PcS tg z :: R) A) (hk : Q ((z.own.lookup t).getD 0) (z.own.lookup t).isSome A) : qek_A (some ⟨tg, 0, none⟩) t Q A := by
 obtain ⟨bo, bt, hh⟩ := PcS.openH h
 unfold qek_A
 simp only [onSome_some, add_at, Nat.zero_add]
 refine ld_M (i := 0) hh rfl rfl (lk_M (i := 1) hh rfl ?_)
 rw [ivs_lookup]
 cases hl : z.own.lookup t with
 | none => rw [hl] at hk; exact ⟨0, rfl, hk⟩
 | some n => rw [hl] at hk; exact ⟨n, rfl, hk⟩
end Go.Dn
/- A machine of spaces whose translations are kept: what goes, what comes back. -/
namespace Go.Dn
variable {A : AH} {l R R' : List SP} {P : SP} {i k k2 b : Nat} {c : Mb} {u : Int} {F G : Int → Prop} {W : Int → Int → Int} {ls : List Ln} {z : PcZ} {sps : List (Int × Value)} {root box root1 root2 : Int} {tab tab1 tab2 : Tab} {lf lf1 lf2 : Int → Option Lf} {tl tl1 tl2 : List Int} {p p1 p2 : Nat} {s s1 s2 : Sl} {regs regs1 regs2 : List Reg} {lent lent1 lent2 : List (Int × Int)} {y : Reg} {page : Int}
theorem takeT_lent {id page : Int} {x : Lf} {Q : AH → Prop} (h : Own (MacL c F G W u ls z sps (OneS p 0 root s regs lent :: l)) A) (hp : StdP c.N F G) (hR : Rest G W root tab lf tl) (hu : tl.length ≤ u) (hb : regs.length ≤ 64)
  (hf : findR regs page = some y) (hy : y.k = 1) (hl : lf page = some x)
  (hk : ∀ (gl : List Int) (W' : Int → Int → Int) (tab' : Tab) (tl' : List Int) ls' A', ForL z id page ls ls' → (∀ y ∈ gl, y ∈ tl) → tl'.length + gl.length = tl.length → StdP c.N (fun y => F y ∨ y ∈ gl) (fun y => G y ∧ y ∉ gl) → Rest (fun y => G y ∧ y ∉ gl) W' root tab' (setL lf page none) tl' → (∀ f, f ∉ tl → W' f = W f) →
   Own (MacL c (fun y => F y ∨ y ∈ gl) (fun y => G y ∧ y ∉ gl) W' (u - gl.length) ls' z sps (OneS p 0 root s regs lent :: l)) A' → Q A') :
  qed_A (some ⟨c.m, 0, none⟩) id (some ⟨p, 0, none⟩) page Q A := by
 unfold qed_A qed_G
 refine one_sl (i := 7) h rfl ?_
 refine Find_spec (k := 7) h rfl reads_one (by omega) (fun g => by rw [hf] at g; cases g) fun y' hf' _ _ _ => ?_
 rw [hf] at hf'
 cases hf'
 refine one_box (i := 7) h rfl (one_root (i := 7) h rfl (purse_head (k := 3) h rfl ⟨one_root (i := 7) h rfl rfl, ?_⟩))
 refine sUnmap h hp hu hR (fun g => by rw [hl] at g; cases g) fun x' gl W' tab' tl' A1 hx' hgl hlen hmem hp1 hR1 hW1 h1 => ?_
 refine ⟨fun A' => A' = A1, fun A2 e => ?_, bsel_t rfl (bsel_f (by rw [hy]; rfl) rfl)⟩
 subst e
 exact forget_spec h1 fun ls' A3 hls h3 => hk gl W' tab' tl' ls' A3 hls hgl hlen hp1 hR1 hW1 h3
theorem BackT_spec {id to page at_ : Int} {x w : Lf} {Q : Int → AH → Prop} (h : Own (MacL c F G W u ls z sps (OneS p1 0 root1 s1 regs1 [(page, 1)] :: OneS p2 0 root2 s2 [y] lent2 :: l)) A) (hs1 : sps.lookup id = some (ptrV p1)) (hs2 : sps.lookup to = some (ptrV p2)) (hp : StdP c.N F G)
  (hR1 : Rest G W root1 tab1 lf1 tl1) (hR2 : Rest G W root2 tab2 lf2 tl2) (hu : tl2.length ≤ u) (hya : y.a = at_) (hyb : y.b = at_ + 1) (hyk : y.k = 1) (hat : 0 ≤ at_ ∧ at_ < 34359738368) (hl1 : lf1 page = some x) (hl2 : lf2 at_ = some w) (hfr : x.frame = w.frame)
  (hk : ∀ (gl : List Int) (W' : Int → Int → Int) (tab' : Tab) (tl' : List Int) (s' : Sl) ls' A', ForL z to at_ ls ls' → (∀ y ∈ gl, y ∈ tl2) → tl'.length + gl.length = tl2.length → StdP c.N (fun y => F y ∨ y ∈ gl) (fun y => G y ∧ y ∉ gl) → Rest (fun y => G y ∧ y ∉ gl) W' root2 tab' (setL lf2 at_ none) tl' → (∀ f, f ∉ tl2 → W' f = W f) →
   Own (MacL c (fun y => F y ∨ y ∈ gl) (fun y => G y ∧ y ∉ gl) W' (u - gl.length) ls' z sps (OneS p1 0 root1 s1 regs1 [] :: OneS p2 0 root2 s' [] lent2 :: l)) A' → Q 0 A') :
  qei_A (some ⟨c.m, 0, none⟩) id page to at_ Q A := by
 have hf : findR [y] at_ = some y := find_one (by omega) (by omega)
 unfold qei_A qei_G
 refine ld_M (i := 3) h rfl rfl (lk_M (i := 4) h rfl ?_)
 rw [hs1]
 refine ⟨some ⟨p1, 0, none⟩, rfl, ld_M (i := 3) h rfl rfl (lk_M (i := 4) h rfl ?_)⟩
 rw [hs2]
 refine ⟨some ⟨p2, 0, none⟩, rfl, fun A' => A' = A, fun A1 e1 => ?_, bsel_f rfl (bsel_f rfl (one_lent (i := 7) h rfl ⟨1, by simp [List.lookup], bsel_f rfl rfl⟩))⟩
 subst e1
 refine one_box (i := 7) h rfl (one_root (i := 7) h rfl (purse_head (k := 3) h rfl ⟨one_root (i := 7) h rfl rfl, ?_⟩))
 refine RQuery_spec h hp.inG hR1 (fun hl A2 h2 => by rw [hl1] at hl; cases hl) fun x' hx' A2 h2 => ?_
 rw [hl1] at hx'
 cases hx'
 refine one_box (i := 8) h2 rfl (one_root (i := 8) h2 rfl (purse_head (k := 3) h2 rfl ⟨one_root (i := 8) h2 rfl rfl, ?_⟩))
 refine RQuery_spec h2 hp.inG hR2 (fun hl A3 h3 => by rw [hl2] at hl; cases hl) fun w' hw' A3 h3 => ?_
 rw [hl2] at hw'
 cases hw'
 refine ⟨fun A' => A' = A3, fun A4 e4 => ?_, one_sl (i := 8) h3 rfl ?_⟩
 ·subst e4
  have h3 : Own (MacL c F G W u ls z sps (OneS p2 0 root2 s2 [y] lent2 :: OneS p1 0 root1 s1 regs1 [(page, 1)] :: l)) A4 := two_swap h3
  refine takeT_lent h3 hp hR2 hu (by simp) hf hyk hl2 fun gl W' tab' tl' ls5 A5 hls g1 g2 g3 g4 g5 h5 => ?_
  refine one_sl (i := 7) h5 rfl ?_
  have hw : IntKind.wrap .i64 (at_ + 1) = at_ + 1 := w64 (by omega) (by omega)
  rw [hw]
  have hrb : rightB at_ (at_ + 1) = true := by
   unfold rightB
   rw [decide_eq_true (by omega), decide_eq_true (by omega), decide_eq_true (by omega), decide_eq_true (by omega)]
   rfl
  have hcut : cutR [y] at_ (at_ + 1) = [] := by rw [← hyb, ← hya]; exact cut_all (by omega)
  refine Cut_spec (k := 7) h5 rfl reads_one hrb (good_one (by omega) (by omega) (by omega)) (by rw [hcut]; simp) fun s62 A6 _ h6 => ?_
  rw [hcut] at h6
  have h6 : Own (MacL c (fun y => F y ∨ y ∈ gl) (fun y => G y ∧ y ∉ gl) W' (u - gl.length) ls5 z sps (OneS p2 0 root2 s2 [y] lent2 :: SlO s62 6 (regC []) :: OneS p1 0 root1 s1 regs1 [(page, 1)] :: l)) A6 := MacL.mapR (fun C hC => hC.swap) (MacL.backN h6)
  simp only [onSome_some, add_at, Nat.zero_add]
  refine set_regs h6 fun A7 h7 => ?_
  have h7 := two_swap h7
  obtain ⟨lm, h8⟩ := MacL.openOne h7
  refine ⟨fun A' => Own (MacL c (fun y => F y ∨ y ∈ gl) (fun y => G y ∧ y ∉ gl) W' (u - gl.length) ls5 z sps (OneS p1 0 root1 s1 regs1 [] :: OneS p2 0 root2 s62 [] lent2 :: l)) A', fun A8 h9 => hk gl W' tab' tl' s62 ls5 A8 hls g1 g2 g3 g4 g5 h9, ?_⟩
  refine ld_M (i := 7) h8 rfl rfl (lk_M (i := 9) h8 rfl ⟨1, by simp [ivs, List.lookup], st_M (i := 9) h8 rfl fun A8 h9 => ?_⟩)
  have e1 : putM (ivs [(page, 1)]) page (.int .i64 (IntKind.wrap .i64 (1 - 1))) = [(page, .int .i64 0)] := by simp [ivs, putM]; decide
  rw [e1] at h9
  refine ld_M (i := 7) h9 rfl rfl (lk_M (i := 9) h9 rfl ⟨0, by simp [List.lookup], bsel_t rfl ?_⟩)
  refine ld_M (i := 7) h9 rfl rfl (dl_M (i := 9) h9 rfl fun A9 h10 => MacL.closeOne (lm := lm) ?_)
  have e2 : delM [(page, (.int .i64 0 : Value))] page = [] := by simp [delM]
  rw [e2] at h10
  exact h10
 ·refine Find_spec (k := 8) h3 rfl reads_one (by simp) (fun g => by rw [hf] at g; cases g) fun y' hf' _ _ _ => ?_
  rw [hf] at hf'
  cases hf'
  exact bsel_f rfl (bsel_f (by rw [hyk]; rfl) (bsel_f rfl (bsel_f rfl (bsel_f (by rw [hfr]; simp) rfl))))
end Go.Dn
