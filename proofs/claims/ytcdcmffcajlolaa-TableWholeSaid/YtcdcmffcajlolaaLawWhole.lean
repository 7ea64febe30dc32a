/- What the proof stands on: WalkT, LawWalks, LawPlays9, LawWhole. -/
import Derived.Test.YtcdcmffcajlolaaLawApart
import Derived.Test.YtcdcmffcajlolaaWalk2
import Derived.Test.YtcdcmffcajlolaaChild
/- What a walk finds of tables at rest. -/
namespace Go.Dn

variable {A : AH} {l R : List SP} {r b t : Nat} {fr root : Int} {hs : List (Int × Int)} {W : Int → Int → Int} {M : Int → Int} {tab : Tab} {lf : Int → Option Lf} {a p : Int} {aw au af : Bool}
theorem resvd_pack {b0 b1 b2 b3 b4 b5 b6 b7 : Bool} {f lev : Int} (hf : 0 ≤ f ∧ f < 1048576) (h : b5 = false ∨ lev = 2 ∧ f % 512 = 0) : resvd (packZ b0 b1 b2 b3 b4 b5 b6 b7 f) lev = false := by
  have hb := pack_bits b0 b1 b2 b3 b4 b5 b6 b7 hf
  have e32 : packZ b0 b1 b2 b3 b4 b5 b6 b7 f / 2 ^ 32 % 1048576 = 0 := by
    rw [show ((2 : Int) ^ 32) = 4294967296 by rfl]
    unfold packZ
    have h0 := eZ_b b0
    have h1 := eZ_b b1
    have h2 := eZ_b b2
    have h3 := eZ_b b3
    have h4 := eZ_b b4
    have h5 := eZ_b b5
    have h6 := eZ_b b6
    have h7 := eZ_b b7
    omega
  have e12 : f % 512 = 0 → packZ b0 b1 b2 b3 b4 b5 b6 b7 f / 2 ^ 12 % 512 = 0 := fun hz => by
    rw [show ((2 : Int) ^ 12) = 4096 by rfl]
    unfold packZ
    have h0 := eZ_b b0
    have h1 := eZ_b b1
    have h2 := eZ_b b2
    have h3 := eZ_b b3
    have h4 := eZ_b b4
    have h5 := eZ_b b5
    have h6 := eZ_b b6
    have h7 := eZ_b b7
    omega
  unfold resvd
  rw [e32, hb.2.2.2.2.2.1]
  rcases h with h | ⟨h, hz⟩
  · subst h; simp
  · subst h; rw [e12 hz]; simp
/-- The words as the bytes have them. -/
def Wd8 (W : Int → Int → Int) (M : Int → Int) : Prop := ∀ t i, 0 ≤ t → 0 ≤ i → i < 512 → W t i = le M (t * 4096 + 8 * i) 8
theorem place_word (h : Wd8 W M) {t : Int} {lv : Nat} (ht : 0 ≤ t) : le M (placeZ t a lv) 8 = W t (partZ a (12 + 9 * lv)) := by
  unfold placeZ
  have : 0 ≤ partZ a (12 + 9 * lv) ∧ partZ a (12 + 9 * lv) < 512 := by unfold partZ; omega
  rw [h t _ ht this.1 this.2]
theorem part_at (ha : a / 4096 = p) : partZ a (12 + 9 * 3) = atP p 0 ∧ partZ a (12 + 9 * 2) = atP p 1 ∧ partZ a (12 + 9 * 1) = atP p 2 ∧ partZ a (12 + 9 * 0) = atP p 3 := by
  subst ha
  unfold partZ
  simp only [atP]
  omega
theorem part_lv (ha : a / 4096 = p) {lv : Nat} (hl : lv < 4) : partZ a (12 + 9 * lv) = atP p (3 - lv) := by
  obtain ⟨h3, h2, h1, h0⟩ := part_at ha
  obtain rfl | rfl | rfl | rfl : lv = 0 ∨ lv = 1 ∨ lv = 2 ∨ lv = 3 := by omega
  · exact h0
  · exact h1
  · exact h2
  · exact h3
def lowOut (o : Option Lf) (aw au af : Bool) (ps : List Int) : WOut := match o with
  | none => .fault (codeZ aw au af)
  | some l => if mayZ l.w l.u l.x aw au af = true then .ok l.frame l.w l.u l.x false false aw ps else .fault (1 + codeZ aw au af)
theorem walk_step (hW : Wd8 W M) (hT : TabW W root tab lf) (hhas : ∀ k q f, tab k q = some f → hasF fr hs f = true) (hp : 0 ≤ p ∧ p < 34359738368) (ha : a / 4096 = p) {k lv : Nat} (hk : k + lv = 3) (hl : 1 ≤ lv) {t : Int} (ht : tab k (preP p k) = some t) (ps : List Int) :
    (tab (k + 1) (preP p (k + 1)) = none → walkL fr hs M a aw au af (lv + 1) t true true true ps = .fault (codeZ aw au af)) ∧
    (∀ g, tab (k + 1) (preP p (k + 1)) = some g → walkL fr hs M a aw au af (lv + 1) t true true true ps = walkL fr hs M a aw au af lv g true true true (ps ++ [placeZ t a lv])) := by
  obtain ⟨e1, e2, e3, e4, e5⟩ := preP_succ hp (k := k) (by omega)
  have hr := hT.range _ _ _ ht
  have hw := hT.words k _ t (by omega) ht (atP p k) e2 e3 e4
  rw [← e1] at hw
  have hle : le M (placeZ t a lv) 8 = W t (atP p k) := by rw [place_word hW hr.1, part_lv ha (by omega), show 3 - lv = k by omega]
  refine ⟨fun hn => ?_, fun g hg => ?_⟩
  · rw [hn] at hw
    exact walkL_f0 (hhas _ _ _ ht) (by rw [hle, hw]; rfl)
  · rw [hg] at hw
    have hw : W t (atP p k) = entW g := hw
    have hgr := hT.range _ _ _ hg
    obtain ⟨q0, q1, q2, _, _, q7, _, q63, qf, _⟩ := pack_bits true true true false false false false false hgr
    have e : le M (placeZ t a lv) 8 = packZ true true true false false false false false g := by rw [hle, hw]; rfl
    rw [walkL_go (hhas _ _ _ ht) (by rw [e]; exact q0) (by rw [e]; exact resvd_pack hgr (.inl rfl)) (by rw [e, q7]; rintro (z | ⟨_, z⟩); omega; cases z), e, q1, q2, q63, qf]
    rfl
theorem walk_low (hW : Wd8 W M) (hT : TabW W root tab lf) (hhas : ∀ k q f, tab k q = some f → hasF fr hs f = true) (hp : 0 ≤ p ∧ p < 34359738368) (ha : a / 4096 = p) : ∃ ps, walkL fr hs M a aw au af 4 root true true true [] = lowOut (lf p) aw au af ps := by
  have t0 : tab 0 (preP p 0) = some root := (hT.root 0 root).2 ⟨rfl, rfl⟩
  have none_ : (∃ k, k < 4 ∧ tab k (preP p k) = none) → lf p = none := fun ⟨k, hk, hn⟩ => by
    cases e : lf p with
    | none => rfl
    | some x => exact absurd hn (hT.chain hp e k hk)
  obtain ⟨n1, s1⟩ := walk_step (aw := aw) (au := au) (af := af) hW hT hhas hp ha (k := 0) (lv := 3) rfl (by omega) t0 []
  cases h1 : tab 1 (preP p 1) with
  | none => exact ⟨[], by rw [n1 h1, none_ ⟨1, by omega, h1⟩]; rfl⟩
  | some g1 =>
    rw [s1 g1 h1]
    obtain ⟨n2, s2⟩ := walk_step (aw := aw) (au := au) (af := af) hW hT hhas hp ha (k := 1) (lv := 2) rfl (by omega) h1 ([] ++ [placeZ root a 3])
    cases h2 : tab 2 (preP p 2) with
    | none => exact ⟨[], by rw [n2 h2, none_ ⟨2, by omega, h2⟩]; rfl⟩
    | some g2 =>
      rw [s2 g2 h2]
      obtain ⟨n3, s3⟩ := walk_step (aw := aw) (au := au) (af := af) hW hT hhas hp ha (k := 2) (lv := 1) rfl (by omega) h2 ([] ++ [placeZ root a 3] ++ [placeZ g1 a 2])
      cases h3 : tab 3 (preP p 3) with
      | none => exact ⟨[], by rw [n3 h3, none_ ⟨3, by omega, h3⟩]; rfl⟩
      | some g3 =>
        rw [s3 g3 h3]
        obtain ⟨e1, e2, e3, e4, e5⟩ := preP_succ hp (k := 3) (by omega)
        have hr := hT.range _ _ _ h3
        have hw := hT.leaves _ g3 h3 (atP p 3) e2 e3
        rw [← e1] at hw
        have hle : le M (placeZ g3 a 0) 8 = W g3 (atP p 3) := by rw [place_word hW hr.1, part_lv ha (by omega)]
        have e4 : preP p (3 + 1) = p := rfl
        rw [e4] at hw
        cases hl : lf p with
        | none =>
          rw [hl] at hw
          exact ⟨[], by rw [walkL_f0 (lv := 0) (hhas _ _ _ h3) (by rw [hle, hw]; rfl)]; rfl⟩
        | some x =>
          rw [hl] at hw
          have hx := hT.rangeL _ _ hl
          obtain ⟨q0, q1, q2, _, q6, q7, q8, q63, qf, _⟩ := pack_bits true x.w x.u false false false false (!x.x) hx
          have e : le M (placeZ g3 a 0) 8 = packZ true x.w x.u false false false false (!x.x) x.frame := by rw [hle, hw]; rfl
          refine ⟨[] ++ [placeZ root a 3] ++ [placeZ g1 a 2] ++ [placeZ g2 a 1] ++ [placeZ g3 a 0], ?_⟩
          rw [walkL_end (lv := 0) (hhas _ _ _ h3) (by rw [e]; exact q0) (by rw [e]; exact resvd_pack hx (.inl rfl)) (.inl rfl), e, q1, q2, q63, qf, q6, q8]
          simp only [Bool.true_and, Bool.not_not, Bool.false_or]
          rfl
/-- The kernel's part of a root. -/
structure KernW (fr : Int) (hs : List (Int × Int)) (W : Int → Int → Int) (root top mid : Int) : Prop where
  hroot : hasF fr hs root = true
  htop : hasF fr hs top = true
  hmid : hasF fr hs mid = true
  rt : 0 ≤ root
  rtop : 0 ≤ top ∧ top < 1048576
  rmid : 0 ≤ mid ∧ mid < 1048576
  w0 : W root 256 = kEnt top
  w0n : ∀ j, 256 < j → j < 512 → W root j = 0
  w1 : W top 0 = kEnt mid
  w1n : ∀ j, 0 < j → j < 512 → W top j = 0
  w2 : W mid 0 = kBig 0
  w2n : ∀ j, 0 < j → j < 512 → W mid j = 0
def highOut (q : Int) (aw au af : Bool) (ps : List Int) : WOut :=
  if q < 512 then if mayZ true false false aw au af = true then .ok q true false false true true aw ps else .fault (1 + codeZ aw au af) else .fault (codeZ aw au af)
theorem walk_high (hW : Wd8 W M) {top mid : Int} (hK : KernW fr hs W root top mid) {q : Int} (hq : 0 ≤ q ∧ q < 34359738368) (ha : (a - 18446603336221196288) / 4096 = q) (ha0 : 18446603336221196288 ≤ a ∧ a < 18446744073709551616) : ∃ ps, walkL fr hs M a aw au af 4 root true true true [] = highOut q aw au af ps := by
  have p3 : partZ a (12 + 9 * 3) = 256 + q / 134217728 := by
    unfold partZ
    rw [show ((2 : Int) ^ (12 + 9 * 3)) = 549755813888 by rfl]
    omega
  have p2 : partZ a (12 + 9 * 2) = q / 262144 % 512 := by
    unfold partZ
    rw [show ((2 : Int) ^ (12 + 9 * 2)) = 1073741824 by rfl]
    omega
  have p1 : partZ a (12 + 9 * 1) = q / 512 % 512 := by
    unfold partZ
    rw [show ((2 : Int) ^ (12 + 9 * 1)) = 2097152 by rfl]
    omega
  have p0 : partZ a 12 = q % 512 := by
    unfold partZ
    rw [show ((2 : Int) ^ 12) = 4096 by rfl]
    omega
  have e3 : le M (placeZ root a 3) 8 = W root (256 + q / 134217728) := by rw [place_word hW hK.rt, p3]
  have fault0 : ∀ {lv : Nat} {t : Int} {w u x : Bool} {ps : List Int}, hasF fr hs t = true → le M (placeZ t a lv) 8 = 0 → ¬q < 512 → ∃ ps', walkL fr hs M a aw au af (lv + 1) t w u x ps = highOut q aw au af ps' := fun ht he hq' => by
    refine ⟨[], ?_⟩
    rw [walkL_f0 ht (by rw [he]; rfl)]
    unfold highOut
    rw [if_neg hq']
  by_cases c3 : q / 134217728 = 0
  · obtain ⟨b0, b1, b2, _, _, b7, _, b63, bf, _⟩ := pack_bits true true false false false false false false hK.rtop
    have e : le M (placeZ root a 3) 8 = packZ true true false false false false false false top := by rw [e3, c3]; exact hK.w0
    rw [walkL_go hK.hroot (by rw [e]; exact b0) (by rw [e]; exact resvd_pack hK.rtop (.inl rfl)) (by rintro (z | ⟨z, _⟩) <;> omega), e, b1, b2, b63, bf]
    have e2 : le M (placeZ top a 2) 8 = W top (q / 262144 % 512) := by rw [place_word hW hK.rtop.1, p2]
    by_cases c2 : q / 262144 % 512 = 0
    · obtain ⟨d0, d1, d2, _, _, d7, _, d63, df, _⟩ := pack_bits true true false false false false false false hK.rmid
      have e' : le M (placeZ top a 2) 8 = packZ true true false false false false false false mid := by rw [e2, c2]; exact hK.w1
      rw [walkL_go hK.htop (by rw [e']; exact d0) (by rw [e']; exact resvd_pack hK.rmid (.inl rfl)) (by rintro (z | ⟨z, _⟩) <;> omega), e', d1, d2, d63, df]
      have e1 : le M (placeZ mid a 1) 8 = W mid (q / 512 % 512) := by rw [place_word hW hK.rmid.1, p1]
      by_cases c1 : q / 512 % 512 = 0
      · have hq5 : q < 512 := by omega
        obtain ⟨f0, f1, f2, _, f6, f7, f8, f63, ff, _⟩ := pack_bits true true false false false true true true (f := 0) (by omega)
        have e'' : le M (placeZ mid a 1) 8 = packZ true true false false false true true true 0 := by rw [e1, c1]; exact hK.w2
        refine ⟨[] ++ [placeZ root a 3] ++ [placeZ top a 2] ++ [placeZ mid a 1], ?_⟩
        rw [walkL_end (lv := 1) hK.hmid (by rw [e'']; exact f0) (by rw [e'']; exact resvd_pack (by omega) (.inr ⟨rfl, rfl⟩)) (.inr ⟨rfl, by rw [e'']; exact f7⟩), e'', f1, f2, f63, ff, f6, f8, p0]
        unfold highOut
        rw [if_pos hq5, if_pos rfl, show 0 + q % 512 = q by omega]
        rfl
      · exact fault0 hK.hmid (by rw [e1]; exact hK.w2n _ (by omega) (by omega)) (by omega)
    · exact fault0 hK.htop (by rw [e2]; exact hK.w1n _ (by omega) (by omega)) (by omega)
  · exact fault0 hK.hroot (by rw [e3]; exact hK.w0n _ (by omega) (by omega)) (by omega)
end Go.Dn
/- What a walk finds is what was mapped, and the kernel sees each frame. -/
namespace Go.Dn

variable {A : AH} {l R : List SP} {r b t : Nat} {P : SP}
theorem canon_iff {a : Int} (ha : 0 ≤ a ∧ a < 18446744073709551616) : canonZ a = true ↔ a < 140737488355328 ∨ 18446603336221196288 ≤ a := by
  unfold canonZ
  rw [show ((2 : Int) ^ 47) = 140737488355328 by rfl]
  simp only [Bool.or_eq_true, beq_iff_eq]
  omega
theorem code_bits (aw au af : Bool) : (bits .and .u64 (codeZ aw au af) 1 == 1) = false ∧ (bits .and .u64 (1 + codeZ aw au af) 1 == 1) = true := by
  cases aw <;> cases au <;> cases af <;> decide
theorem code_bits64 (aw au af : Bool) : (bits .and .i64 (codeZ aw au af) 1 == 1) = false ∧ (bits .and .i64 (1 + codeZ aw au af) 1 == 1) = true := by
  cases aw <;> cases au <;> cases af <;> decide
set_option maxHeartbeats 2000000 in
theorem TableWalks_spec {s0 : Sl} {acts : List ActZ} {k : Nat} {a : Int} {aw au af : Bool} {Q : Bool → AH → Prop} (h : Own R A) (e : R[k]? = some P) (hr : Reads P s0 6 (actCells acts)) (ha : 0 ≤ a ∧ a < 18446744073709551616) (hk : ∀ A', Own R A' → Q true A') :
    demesnelaw09_TableWalks_A s0 a aw au af Q A := by
  unfold demesnelaw09_TableWalks_A demesnelaw09_TableWalks_G
  refine sPurse (N := 90) h ⟨by omega, by omega⟩ fun r b t A1 hp1 h1 => ?_
  refine ⟨fun h' => Own (StdO 90 r b t (fun x => 1 ≤ x ∧ x < 90) (fun _ => False) (fun _ _ => 0) 0 R) h', ?_, awake_spec h1 fun A2 h2 => bsel_f rfl (bsel_f rfl h2)⟩
  intro A1 h1
  refine sKernel h1 hp1 ⟨by omega, by omega⟩ fun top mid A2 W2 htop hmid hKOK hp2 h2 => ?_
  have hrt := has0.1 (hp1.inF top htop)
  have hrm := has0.1 (hp1.inF mid hmid)
  refine sRoot h2 hp2 ⟨by omega, by omega⟩ (by omega) ⟨hrt.1, by omega⟩ fun root A3 W3 hroot hp3 hR hW3 hW256 hWn h3 => ?_
  refine ⟨fun h' => h' = A3, ?_, bsel_f rfl (bsel_f rfl rfl)⟩
  intro A4 e4
  subst e4
  refine new_C (cs := []) h3 fun b19 A4 h4 => ?_
  have h4 : Own (StdO 90 r b t _ _ W3 (2 + 1) (SlO ⟨some ⟨b19, 0, none⟩, 0, 0⟩ 5 (lvCells []) :: R)) A4 := (((h4.imp fun B _ => (slo_empty : SlO ⟨some ⟨b19, 0, none⟩, 0, 0⟩ 5 (lvCells []) B)).pick 3 rfl).pick 3 rfl).pick 3 rfl
  have hne : ∀ f, f = top ∨ f = mid → f ≠ root := fun f hf z => by
    rw [z] at hf
    exact hroot.2 (by rcases hf with hf | hf <;> simp [hf])
  have hD0 : Dz 90 89 (trS 90) r b t root 2 (fun f => f = top ∨ f = mid) W3 [] (SlO ⟨some ⟨b19, 0, none⟩, 0, 0⟩ 5 (lvCells []) :: R) A4 :=
    ⟨_, _, W3, _, tab0 root, _, [root], hp3, hR, ⟨by simp [pagesL], fun _ => rfl, by simp [pagesL, tz]⟩, by simp, fun f hf => ⟨rfl, .inl (.inr (by rcases hf with hf | hf <;> simp [hf])), fun z => hne f hf (by simpa using z)⟩, fun _ _ => rfl, h4⟩
  refine ⟨fun so h' => ∃ L : List LvZ, L.length ≤ 20 ∧ Dz 90 89 (trS 90) r b t root 2 (fun f => f = top ∨ f = mid) W3 L (SlO so 5 (lvCells L) :: R) h', ?_, ⟨fun so x m h' => ∃ (v : Nat) (L : List LvZ), x = v ∧ m + v = 20 ∧ L.length ≤ v ∧ Dz 90 89 (trS 90) r b t root 2 (fun f => f = top ∨ f = mid) W3 L (SlO so 5 (lvCells L) :: R) h', ⟨20, 0, [], rfl, rfl, by simp, hD0⟩, ?_⟩⟩
  rotate_left
  · intro so x m A5 ⟨v, L, g1, g2, g3, h5⟩
    subst g1
    refine bsel_in (fun c => bsel_in (fun d => ?_) fun _ => ⟨L, by omega, h5⟩) fun _ => ⟨L, by omega, h5⟩
    have c : (v : Int) < s0.len := of_decide_eq_true c
    have d : (v : Int) < 20 := of_decide_eq_true d
    have h5' := h5
    obtain ⟨F, G, W, u, tab, lf, tl, _, _, _, _, _, _, hO⟩ := h5'
    have el : (DO 90 r b t 89 (trS 90) F G W u (SlO so 5 (lvCells L) :: R))[k + 4]? = some P := by unfold DO; simpa using e
    have hlen := rd_acts_len hO el hr
    obtain ⟨ac, bb, o, _, hs, c0, c1, c2, c3, c4, c5⟩ := rd_act hO el hr (v := v) (by omega)
    rw [hs]
    refine inB_in (by omega) c (ld_fI0 c0 (ld_fI c1 (ld_fI c2 (ld_fB c3 (ld_fB c4 (ld_fB c5 ?_))))))
    have hcz := tz_pos none (pagesL L)
    have hpl : (pagesL L).length = L.length := by simp [pagesL]
    exact does_spec (i := 0) h5 trS_ok (by omega) (by omega) (by omega) (fun d d0 d3 => by constructor <;> omega) fun s' L' A6 hl h6 => bsel_f rfl ⟨m - 1, by omega, v + 1, L', by rw [w64] <;> omega, by omega, by omega, h6⟩
  intro so A5 ⟨L, hL, F, G, W, u, tab, lf, tl, hp, hRr, hC, hu, hK, hHi, hO⟩
  -- the walk
  have hKW : KernW 90 [] W root top mid := by
    have ht0 := hKOK.top
    have hm0 := hKOK.mid 0 mid rfl
    have e1 : W top = W2 top := by rw [(hK top (.inl rfl)).1]; exact hW3 top (hne top (.inl rfl))
    have e2 : W mid = W2 mid := by rw [(hK mid (.inr rfl)).1]; exact hW3 mid (hne mid (.inr rfl))
    refine ⟨hp.inG root (hRr.tg ((hRr.T.root 0 root).2 ⟨rfl, rfl⟩)), hp1.inF top htop, hp1.inF mid hmid, (has0.1 (hp1.inF root hroot.1)).1, ⟨hrt.1, by omega⟩, ⟨hrm.1, by omega⟩, by rw [hHi 256 (by omega)]; exact hW256, fun j j0 j1 => by rw [hHi j (by omega)]; exact hWn j j0, ?_, fun j j0 j1 => ?_, ?_, fun j j0 j1 => ?_⟩
    · rw [e1]; have := ht0 0 (by omega); simpa using this
    · rw [e1]
      obtain ⟨q, rfl⟩ := Int.eq_ofNat_of_zero_le (show 0 ≤ j by omega)
      have := ht0 q (by omega)
      rw [this]
      have : ([mid] : List Int)[q]? = none := by simp; omega
      rw [this]
    · rw [e2]; have := hm0 0 (by omega); simpa using this
    · rw [e2]
      obtain ⟨q, rfl⟩ := Int.eq_ofNat_of_zero_le (show 0 ≤ j by omega)
      have := hm0 q (by omega)
      rw [this, if_neg (by omega)]
  have hO : Own (RamW r 90 [] W :: Bud b F G (89 - u) :: TreeS t (trS 90 u) :: SlO so 5 (lvCells L) :: R) A5 := hO
  obtain ⟨M, ⟨hRam, hWd⟩, hS⟩ := RamW.openH hO
  have hWd : Wd8 W M := fun t i h0 h1 h2 => hWd t i h0 h1 h2
  have hhas : ∀ kk q f, tab kk q = some f → hasF 90 [] f = true := fun kk q f hf => hp.inG f (hRr.tg hf)
  have hroot' := hKW.hroot
  refine Walk_spec (i := 0) hS rfl (by simp) ⟨by omega, by omega⟩ ha ?_
  unfold walkZ
  rw [if_neg (by simp [hroot'] : ¬hasF 90 [] root = false)]
  by_cases hc : canonZ a = true
  · rw [if_neg (by simp [hc])]
    rcases (canon_iff ha).1 hc with hlow | hhigh
    · -- a page of the root's
      obtain ⟨ps, hwl⟩ := walk_low (fr := 90) (hs := []) (aw := aw) (au := au) (af := af) hWd hRr.T hhas (p := a / 4096) ⟨by omega, by omega⟩ rfl
      rw [hwl]
      have hix : IntKind.wrap .i64 (Int.fdiv a (2 ^ (12 : Nat))) = a / 4096 := by
        rw [shr_eq, show ((2 : Int) ^ (12 : Nat)) = 4096 by rfl, w64 (by omega) (by omega)]
      have fin : ∀ {A' : AH} {P0 : SP}, Own (P0 :: Bud b F G (89 - u) :: TreeS t (trS 90 u) :: SlO so 5 (lvCells L) :: R) A' → Own R A' := fun hA => hA.tail.tail.tail.tail
      cases hx : lf (a / 4096) with
      | none =>
        intro A6 h6
        refine Canonical_spec (bsel_f (by simp [hc]) (bsel_t (decide_eq_true hlow) ?_))
        rw [hix]
        refine Find_spec (k := 3) h6 rfl reads_slo (by omega) (fun _ => ?_) fun x g => by rw [← hC.lfe, hx] at g; cases g
        refine bsel_f rfl (bsel_t rfl (bsel_t (beq_self_eq_true _) ?_))
        rw [(code_bits64 aw au af).1]
        exact hk A6 (fin h6)
      | some x =>
        have hf : findL L (a / 4096) = some x := by rw [← hC.lfe]; exact hx
        by_cases hm : mayZ x.w x.u x.x aw au af = true
        · show WPost _ _ _ _ _ _ _ _ _ (if mayZ x.w x.u x.x aw au af = true then _ else _)
          rw [if_pos hm]
          intro A6 h6
          refine Canonical_spec (bsel_f (by simp [hc]) (bsel_t (decide_eq_true hlow) ?_))
          rw [hix]
          have h6 : Own (RamS r 90 [] (markL M aw ps) :: Bud b F G (89 - u) :: TreeS t (trS 90 u) :: SlO so 5 (lvCells L) :: R) A6 := h6
          refine Find_spec (k := 3) h6 rfl reads_slo (by omega) (fun g => by rw [hf] at g; cases g) fun y g => ?_
          rw [hf] at g
          cases g
          refine bsel_t rfl (May_spec (bsel_t hm (bsel_t rfl ?_)))
          simp only [beq_self_eq_true, Bool.and_self]
          exact hk A6 (fin h6)
        · show WPost _ _ _ _ _ _ _ _ _ (if mayZ x.w x.u x.x aw au af = true then _ else _)
          rw [if_neg hm]
          intro A6 h6
          refine Canonical_spec (bsel_f (by simp [hc]) (bsel_t (decide_eq_true hlow) ?_))
          rw [hix]
          refine Find_spec (k := 3) h6 rfl reads_slo (by omega) (fun g => by rw [hf] at g; cases g) fun y g => ?_
          rw [hf] at g
          cases g
          refine bsel_t rfl (May_spec (bsel_f (by simpa using hm) (bsel_t rfl (bsel_t (beq_self_eq_true _) ?_))))
          rw [(code_bits64 aw au af).2]
          exact hk A6 (fin h6)
    · -- the kernel's part
      obtain ⟨ps, hwl⟩ := walk_high (fr := 90) (hs := []) (aw := aw) (au := au) (af := af) hWd hKW (q := (a - 18446603336221196288) / 4096) ⟨by omega, by omega⟩ rfl ⟨hhigh, ha.2⟩
      rw [hwl]
      have hix : Int.fdiv (IntKind.wrap .u64 (a - 18446603336221196288)) (2 ^ (12 : Nat)) = (a - 18446603336221196288) / 4096 := by
        rw [shr_eq, show ((2 : Int) ^ (12 : Nat)) = 4096 by rfl, wu64 (by omega) (by omega)]
      have fin : ∀ {A' : AH} {P0 : SP}, Own (P0 :: Bud b F G (89 - u) :: TreeS t (trS 90 u) :: SlO so 5 (lvCells L) :: R) A' → Own R A' := fun hA => hA.tail.tail.tail.tail
      have hnl : decide (a < (140737488355328 : Int)) = false := decide_eq_false (by omega)
      by_cases hq : (a - 18446603336221196288) / 4096 < 512
      · by_cases hm : mayZ true false false aw au af = true
        · unfold highOut
          rw [if_pos hq, if_pos hm]
          intro A6 h6
          refine Canonical_spec (bsel_f (by simp [hc]) (bsel_f hnl ?_))
          rw [hix]
          have hau : au = false := by cases au <;> simp_all [mayZ]
          have haf : af = false := by cases af <;> simp_all [mayZ]
          subst hau haf
          refine bsel_f (by simp; omega) (bsel_f rfl (bsel_f rfl (bsel_t rfl ?_)))
          rw [w64 (by omega) (by omega)]
          simp only [beq_self_eq_true, Bool.and_self]
          exact hk A6 (fin h6)
        · unfold highOut
          rw [if_pos hq, if_neg hm]
          intro A6 h6
          refine Canonical_spec (bsel_f (by simp [hc]) (bsel_f hnl ?_))
          rw [hix]
          have hbad : au = true ∨ af = true := by cases au <;> cases af <;> simp_all [mayZ]
          refine bsel_f (by simp; omega) (bsel_in (fun _ => bsel_t rfl ?_) fun g1 => bsel_in (fun _ => bsel_t rfl ?_) fun g2 => ?_)
          · rw [beq_self_eq_true]; exact hk A6 (fin h6)
          · rw [beq_self_eq_true]; exact hk A6 (fin h6)
          · rw [g1, g2] at hbad; simp at hbad
      · unfold highOut
        rw [if_neg hq]
        intro A6 h6
        refine Canonical_spec (bsel_f (by simp [hc]) (bsel_f hnl ?_))
        rw [hix]
        refine bsel_t (by simp; omega) (bsel_t rfl ?_)
        rw [beq_self_eq_true]; exact hk A6 (fin h6)
  · have hc : canonZ a = false := by simpa using hc
    rw [if_pos hc]
    intro A6 h6
    exact Canonical_spec (bsel_t (by simp [hc]) (hk A6 h6.tail.tail.tail.tail))
end Go.Dn
/- Pages lead where they were mapped to, and just the tables that they need are charged. -/
namespace Go.Dn

variable {A : AH} {l R : List SP} {r b t : Nat} {N u q : Int} {W Wk : Int → Int → Int} {F G : Int → Prop} {root : Int} {tab : Tab} {lf : Int → Option Lf} {tl : List Int} {L : List LvZ} {P P2 : SP}
/-- A container below the first one, which has the kernel's tables. -/
def trC (N q u : Int) : List Nd := [⟨-1, N, 2, q, true⟩, ⟨0, q, u, 0, true⟩]
theorem trC_ok : Tr (trC N q) 1 0 q 0 := ⟨fun _ => rfl, fun _ _ => rfl⟩
theorem cChild {Q : Int → Int → AH → Prop} (h : Own (StdO N r b t F G W 2 R) A) (hq : 0 ≤ q ∧ q ≤ N - 2) (hk : ∀ A', Own (DO N r b t (N - 3) (trC N q) F G W 0 R) A' → Q 1 0 A') : quota_Tree_Child_A (some ⟨t, 0, none⟩) 0 q Q A := by
  have h : Own (TreeS t [⟨-1, N, 2, 0, true⟩] :: RamW r N [] W :: Bud b F G (N - 1 - 2) :: R) A := Own.rot3 h
  refine Child_spec (i := 0) h rfl rfl (fun g => by omega) (fun _ g => ?_) (fun _ _ _ g => ?_) (fun _ _ _ _ A' hA => hk A' ?_) fun _ _ j hj => ?_
  · simp only at g; omega
  · simp at g
  · have hA : Own (TreeS t (trC N q 0) :: RamW r N [] W :: Bud b F G (N - 1 - 2) :: R) A' := by
      have e : ([⟨-1, N, 2, 0, true⟩] : List Nd).set 0 { ({ par := -1, quo := N, use := 2, lent := 0, live := true } : Nd) with lent := 0 + q } ++ [⟨((0 : Nat) : Int), q, 0, 0, true⟩] = trC N q 0 := by
        unfold trC; simp
      rw [← e]; exact hA
    unfold DO
    rw [show N - 3 - 0 = N - 1 - 2 by omega]
    exact Own.unrot3 hA
  · simp [firstDead] at hj
theorem cRoot {kern : Int} {Q : Int → Int → AH → Prop} (h : Own (DO N r b t (N - 3) (trC N q) F G W 0 R) A) (hp : StdP N F G) (hN : 4 ≤ N ∧ N ≤ 1048576) (hq : 1 ≤ q) (hkn : 0 ≤ kern ∧ kern < 1048576)
    (hk : ∀ root A' W', F root → StdP N (fun x => F x ∧ x ∉ [root]) (fun x => G x ∨ x ∈ [root]) → Rest (fun x => G x ∨ x ∈ [root]) W' root (tab0 root) (fun _ => none) [root] →
      Own (DO N r b t (N - 3) (trC N q) (fun x => F x ∧ x ∉ [root]) (fun x => G x ∨ x ∈ [root]) W' 1 R) A' → Q root 0 A') :
    table_Root_A (some ⟨r, 0, none⟩) (some ⟨b, 0, none⟩) (some ⟨t, 0, none⟩) 1 kern Q A := by
  refine Root_spec (i := 1) (tk := []) (nd := ⟨0, q, 0, 0, true⟩) (taken_nil rfl h) rfl rfl hp.inF hkn (fun g => ?_) (fun _ g => ?_) fun _ _ root A' hf _ hA => ?_
  · simp at g; omega
  · simp at g; omega
  have hrng := has0.1 (hp.inF root hf)
  have hz : ∀ j, 0 ≤ j → j < 256 → setW (zeroW W root) root 256 (kEnt kern) root j = 0 := fun j j0 j1 => by
    unfold setW zeroW
    rw [if_neg (by omega), if_pos rfl]
  have key : ∀ k q f, tab0 root k q = some f ↔ (k = 0 ∧ q = 0) ∧ f = root := fun k q f => by
    unfold tab0
    split
    · rename_i e; simp [e]; exact eq_comm
    · rename_i e; simp [e]
  refine hk root A' _ hf ⟨fun x hx => hp.inF x hx.1, fun x hx => ?_⟩ ⟨TabW.init hz ⟨hrng.1, by omega⟩, fun p x e => (by cases e), fun k q f e hk1 => ?_, (by simp), fun f => ?_, fun f hf2 => .inr hf2⟩ ?_
  · rcases hx with hx | hx
    · exact hp.inG x hx
    · simp only [List.mem_singleton] at hx; subst hx; exact hp.inF _ hf
  · have := ((key k q f).1 e).1; omega
  · rw [List.mem_singleton]
    constructor
    · intro e; exact ⟨0, 0, (key 0 0 f).2 ⟨⟨rfl, rfl⟩, e⟩⟩
    · rintro ⟨k, q, e⟩; exact ((key k q f).1 e).2
  · have hA : Own (RamW r N [] (setW (zeroW W root) root 256 (kEnt kern)) :: Bud b (fun x => F x ∧ x ∉ [root]) (fun x => G x ∨ x ∈ [root]) (N - 3 - 0 - 1) :: TreeS t (trC N q 1) :: R) A' := hA
    rw [show N - 3 - 0 - 1 = N - 3 - 1 by omega] at hA
    exact hA
theorem cUsed {x y : Option Addr} {T : Int} {Q : Int → AH → Prop} (h : Own (DO N r b t T (trC N q) F G W u R) A) (hk : Q u A) : demesnelaw09_Used_A x y (some ⟨t, 0, none⟩) 1 Q A := by
  have h : Own (TreeS t (trC N q u) :: RamW r N [] W :: Bud b F G (T - u) :: R) A := Own.rot3 h
  exact Used_head (i := 1) (nd := ⟨0, q, u, 0, true⟩) h rfl rfl hk
theorem cFree {T : Int} {tr : Int → List Nd} {Q : Int → AH → Prop} (h : Own (DO N r b t T tr F G W u R) A) (hk : Q (T - u) A) : buddy_Buddy_Free_A (some ⟨b, 0, none⟩) Q A := Free_head (Own.swap h) hk
theorem cLe {T : Int} (h : Own (DO N r b t T (trC N q) F G W u R) A) : u ≤ q := by
  have h : Own (TreeS t (trC N q u) :: RamW r N [] W :: Bud b F G (T - u) :: R) A := Own.rot3 h
  obtain ⟨_, _, _, ⟨_, h2⟩, _⟩ := TreeS.openH h
  have := (h2 ⟨0, q, u, 0, true⟩ (by simp [trC])).room
  simp only at this; omega
theorem same_spec {s s' : Sl} {k k' : Nat} {a : List Int} {Q : Bool → AH → Prop} (h : Own l A) (e : l[k]? = some P) (hr : Reads P s 1 (intsV a)) (e' : l[k']? = some P2) (hr' : Reads P2 s' 1 (intsV a)) (hb : a.length ≤ 1000000) (hk : Q true A) : demesnelaw09_same_A s s' Q A := by
  have hl : s.len = a.length := by have := rd_len h e hr; simp only [intsV, List.length_map] at this; omega
  have hl' : s'.len = a.length := by have := rd_len h e' hr'; simp only [intsV, List.length_map] at this; omega
  unfold demesnelaw09_same_A
  refine bsel_f (by rw [hl, hl']; simp) ?_
  refine ⟨fun x m h' => ∃ v : Nat, x = v ∧ m + v = a.length ∧ h' = A, ⟨a.length, 0, rfl, rfl, rfl⟩, ?_⟩
  intro x m A1 ⟨v, e1, e2, e3⟩
  subst e1 e3
  refine bsel_in (fun c => ?_) fun _ => hk
  have c : (v : Int) < s.len := of_decide_eq_true c
  obtain ⟨p, hp⟩ : ∃ p, a[v]? = some p := ⟨a[v]'(by omega), by simp⟩
  obtain ⟨bb, o, q1, q2⟩ := rd_cell h e hr (j := v) (v := .int .i64 p) (by simp [intsV, hp])
  obtain ⟨bb', o', q1', q2'⟩ := rd_cell h e' hr' (j := v) (v := .int .i64 p) (by simp [intsV, hp])
  rw [q1, q1']
  have ev : Int.toNat (v : Int) * 1 = v := by omega
  refine inB_in (by omega) c ⟨p, by rw [add_at, ev]; exact q2, inB_in (by omega) (by omega) ⟨p, by rw [add_at, ev]; exact q2', bsel_f (by simp) ⟨m - 1, by omega, v + 1, by rw [w64] <;> omega, by omega, rfl⟩⟩⟩
set_option maxHeartbeats 2000000 in
theorem TablePlays_spec {may : Int} {s0 : Sl} {acts : List ActZ} {k : Nat} {Q : Bool → AH → Prop} (h : Own R A) (e : R[k]? = some P) (hr : Reads P s0 6 (actCells acts)) (hb : -9223372036854775808 ≤ may ∧ may < 9223372036854775808) (hk : ∀ A', Own R A' → Q true A') : demesnelaw09_TablePlays_A may s0 Q A := by
  unfold demesnelaw09_TablePlays_A demesnelaw09_TablePlays_G
  refine sPurse (N := 60) h ⟨by omega, by omega⟩ fun r b t A1 hp1 h1 => ?_
  refine ⟨fun h' => Own (StdO 60 r b t (fun x => 1 ≤ x ∧ x < 60) (fun _ => False) (fun _ _ => 0) 0 R) h', ?_, awake_spec h1 fun A2 h2 => bsel_f rfl (bsel_f rfl h2)⟩
  intro A1 h1
  refine ⟨fun h' => h' = A1 ∧ 3 ≤ may ∧ may ≤ 43, ?_, bsel_in (fun _ => hk A1 (Own.tail (Own.tail (Own.tail h1)))) fun c1 => bsel_in (fun _ => hk A1 (Own.tail (Own.tail (Own.tail h1)))) fun c2 => ⟨rfl, by have := of_decide_eq_false c1; omega, by have := of_decide_eq_false c2; omega⟩⟩
  intro A2 ⟨e2, m0, m1⟩
  subst e2
  refine sKernel h1 hp1 ⟨by omega, by omega⟩ fun top mid A2 W2 htop hmid hKOK hp2 h2 => bsel_f rfl ?_
  have hrt := has0.1 (hp1.inF top htop)
  rw [w64 (n := may - 2) (by omega) (by omega)]
  refine cChild (q := may - 2) h2 ⟨by omega, by omega⟩ fun A3 h3 => ?_
  refine cRoot h3 hp2 ⟨by omega, by omega⟩ (by omega) ⟨hrt.1, by omega⟩ fun root A4 W4 hroot hp4 hR h4 => ?_
  refine ⟨fun h' => h' = A4, ?_, bsel_f rfl (bsel_f rfl rfl)⟩
  intro A5 e5
  subst e5
  refine new_C (cs := []) h4 fun b24 A5 h5 => ?_
  have h5 : Own (DO 60 r b t 57 (trC 60 (may - 2)) _ _ W4 1 (SlO ⟨some ⟨b24, 0, none⟩, 0, 0⟩ 5 (lvCells []) :: R)) A5 := (((h5.imp fun B _ => (slo_empty : SlO ⟨some ⟨b24, 0, none⟩, 0, 0⟩ 5 (lvCells []) B)).pick 3 rfl).pick 3 rfl).pick 3 rfl
  have hD0 : Dz 60 57 (trC 60 (may - 2)) r b t root 0 (fun _ => False) W4 [] (SlO ⟨some ⟨b24, 0, none⟩, 0, 0⟩ 5 (lvCells []) :: R) A5 :=
    ⟨_, _, W4, _, tab0 root, _, [root], hp4, hR, ⟨by simp [pagesL], fun _ => rfl, by simp [pagesL, tz]⟩, by simp, fun f hf => hf.elim, fun _ _ => rfl, h5⟩
  refine ⟨fun so h' => ∃ L : List LvZ, L.length ≤ 30 ∧ so.len = L.length ∧ Dz 60 57 (trC 60 (may - 2)) r b t root 0 (fun _ => False) W4 L (SlO so 5 (lvCells L) :: R) h', ?_, ⟨fun so x m h' => ∃ (v : Nat) (L : List LvZ), x = v ∧ m + v = 30 ∧ L.length ≤ v ∧ Dz 60 57 (trC 60 (may - 2)) r b t root 0 (fun _ => False) W4 L (SlO so 5 (lvCells L) :: R) h', ⟨30, 0, [], rfl, rfl, by simp, hD0⟩, ?_⟩⟩
  · -- the end
    intro so A6 ⟨L, hL, hso, F, G, W, u, tab, lf, tl, hp, hR6, hC, hu, _, _, h6⟩
    have hsl : so.len = L.length := hso
    refine RDrop_spec (i := 1) (nd := ⟨0, may - 2, u, 0, true⟩) h6 rfl rfl (by have := hC.cnt; have := tz_pos none (pagesL L); simp only; omega) hp.inG hR6 (fun ⟨p, hx⟩ A7 h7 => ?_) fun hn A7 h7 => ?_
    · have hpos : 0 < L.length := by
        have := hC.mem.2 hx
        have := List.length_pos_of_mem this
        simpa [pagesL] using this
      refine bsel_t (decide_eq_true ?_) (bsel_t rfl (hk A7 h7.tail.tail.tail.tail))
      show (0 : Int) < (so.len : Int); omega
    · have hz : L = [] := by
        cases L with
        | nil => rfl
        | cons y r =>
          have := hC.mem.1 (show y.page ∈ pagesL (y :: r) by simp [pagesL])
          exact absurd (hn _) this
      subst hz
      have hu1 : u = 1 := by
        have := hC.cnt
        simp [pagesL, tz] at this
        omega
      subst hu1
      have hsl : so.len = 0 := by simpa using hsl
      refine bsel_f (decide_eq_false ?_) (bsel_t ?_ (bsel_t rfl ?_))
      · show ¬(0 : Int) < (so.len : Int); omega
      · rw [hsl]; rfl
      · have h7 : Own (RamW r 60 [] W :: Bud b (fun x => F x ∨ x = root) (fun x => G x ∧ x ≠ root) (57 - 1 + 1) :: TreeS t (trC 60 (may - 2) (1 - 1)) :: SlO so 5 (lvCells []) :: R) A7 := h7
        refine Used_head (i := 1) (nd := ⟨0, may - 2, 1 - 1, 0, true⟩) (Own.rot3 h7) rfl rfl ?_
        exact hk A7 h7.tail.tail.tail.tail
  · intro so x m A6 ⟨v, L, g1, g2, g3, h6⟩
    subst g1
    have h6' := h6
    obtain ⟨F, G, W, u, tab, lf, tl, hp, hR6, hC, hu, _, _, hO⟩ := h6'
    have hsl := rd_lv_len (k := 3) hO rfl reads_slo
    refine ⟨fun h' => h' = A6 ∧ (v : Int) < s0.len ∧ (v : Int) < 30, ?_, bsel_in (fun c => bsel_in (fun d => ⟨rfl, of_decide_eq_true c, of_decide_eq_true d⟩) fun _ => ⟨L, by omega, hsl, h6⟩) fun _ => ⟨L, by omega, hsl, h6⟩⟩
    intro A7 ⟨e7, c, d⟩
    subst e7
    have acte : ∀ {F G W u R'}, (DO 60 r b t 57 (trC 60 (may - 2)) F G W u (R' :: R))[k + 4]? = some P := fun {F G W u R'} => by unfold DO; simpa using e
    have hlen := rd_acts_len hO acte hr
    obtain ⟨ac, bb, o, hac, hs, c0, c1, c2, c3, c4, c5⟩ := rd_act hO acte hr (v := v) (by omega)
    have again : ∀ {l' : List SP} {k' : Nat} {A' : AH}, Own l' A' → l'[k']? = some P → (aI .i64 (Addr.add ⟨bb, o, none⟩ (Int.toNat (v : Int) * 6)) A' fun n44 => aI .i64 (Addr.add (Addr.add ⟨bb, o, none⟩ (Int.toNat (v : Int) * 6)) 1) A' fun n45 => aI .i64 (Addr.add (Addr.add ⟨bb, o, none⟩ (Int.toNat (v : Int) * 6)) 2) A' fun n46 =>
        aB (Addr.add (Addr.add ⟨bb, o, none⟩ (Int.toNat (v : Int) * 6)) 3) A' fun b47 => aB (Addr.add (Addr.add ⟨bb, o, none⟩ (Int.toNat (v : Int) * 6)) 4) A' fun b48 => aB (Addr.add (Addr.add ⟨bb, o, none⟩ (Int.toNat (v : Int) * 6)) 5) A' fun b49 =>
          ((.agg #[.int .i64 n44, .int .i64 n45, .int .i64 n46, .bool b47, .bool b48, .bool b49] : Value) = .agg #[.int .i64 ac.kind, .int .i64 ac.page, .int .i64 ac.frame, .bool ac.w, .bool ac.u, .bool ac.x])) := fun hO' e' => by
      obtain ⟨ac', bb', o', hac', hs', d0, d1, d2, d3, d4, d5⟩ := rd_act hO' e' hr (v := v) (by omega)
      rw [hac] at hac'
      cases hac'
      rw [hs] at hs'
      cases hs'
      exact ld_fI0 d0 (ld_fI d1 (ld_fI d2 (ld_fB d3 (ld_fB d4 (ld_fB d5 rfl)))))
    rw [hs]
    refine inB_in (by omega) c (ld_fI0 c0 (ld_fI c1 (ld_fI c2 (ld_fB c3 (ld_fB c4 (ld_fB c5 ?_))))))
    refine Numbers_spec (k := 3) hO rfl reads_slo (by omega) fun s42 A8 n42 h8 => ⟨again (k' := k + 5) h8 (by simpa [DO] using e), ?_⟩
    refine Tables_spec (k := 0) h8 rfl reads_slo (by simp [pagesL]; omega) fun A9 h9 => ⟨again (k' := k + 5) h9 (by simpa [DO] using e), ?_⟩
    have hO9 : Own (DO 60 r b t 57 (trC 60 (may - 2)) F G W u (SlO so 5 (lvCells L) :: R)) A9 := h9.tail
    have hcz := tz_pos none (pagesL L)
    have hcnt := hC.cnt
    have hule := cLe hO9
    have hpl : (pagesL L).length = L.length := by simp [pagesL]
    rw [w64 (n := may - 2 - (1 + tz none (pagesL L))) (by omega) (by omega)]
    refine does_spec (i := 1) (par := 0) (quo := may - 2) (lent := 0) (base := 0) (K := fun _ => False) (Wk := W4) ⟨F, G, W, u, tab, lf, tl, hp, hR6, hC, hu, by assumption, by assumption, hO9⟩ trC_ok (by omega) (by omega) (by omega) (fun d d0 d3 => by constructor <;> omega) fun s58 L' A10 hl' h10 => bsel_f rfl ?_
    have h10' := h10
    obtain ⟨F', G', W', u', tab', lf', tl', hp', hR', hC', hu', _, _, hO10⟩ := h10'
    have hcnt' := hC'.cnt
    refine cUsed hO10 ?_
    refine Numbers_spec (k := 3) hO10 rfl reads_slo (by omega) fun s63 A11 n63 h11 => ?_
    refine Tables_spec (k := 0) h11 rfl reads_slo (by simp [pagesL]; omega) fun A12 h12 => ?_
    have eu : u' = 1 + tz none (pagesL L') := by omega
    refine bsel_f (by rw [eu]; simp) ?_
    have hO12 : Own (DO 60 r b t 57 (trC 60 (may - 2)) F' G' W' u' (SlO s58 5 (lvCells L') :: R)) A12 := h12.tail
    have hcz' := tz_pos none (pagesL L')
    have hpl' : (pagesL L').length = L'.length := by simp [pagesL]
    refine cFree hO12 (cUsed hO12 ?_)
    rw [w64 (n := 57 - u') (by omega) (by omega)]
    refine bsel_f (by simp) ?_
    refine RPages_spec hO12 hp'.inG hR' fun s71 ps A13 q1 _ q3 q4 h13 => ?_
    have hps : ps = pagesL L' := rise_ext q3 hC'.rise fun p => by rw [q4, hC'.mem]
    subst hps
    refine Numbers_spec (k := 4) h13 rfl reads_slo (by omega) fun s73 A14 n73 h14 => ?_
    refine same_spec (k := 2) (k' := 0) h14 rfl reads_slo rfl reads_slo (by omega) (bsel_f rfl ?_)
    have h15 : Own (RamW r 60 [] W' :: SlO s71 1 (intsV (pagesL L')) :: Bud b F' G' (57 - u') :: TreeS t (trC 60 (may - 2) u') :: SlO s58 5 (lvCells L') :: R) A14 := h14.tail
    have h15 : Own (DO 60 r b t 57 (trC 60 (may - 2)) F' G' W' u' (SlO s58 5 (lvCells L') :: R)) A14 := h15.cons fun C hC => hC.tail
    exact ⟨m - 1, by omega, v + 1, L', by rw [w64] <;> omega, by omega, by omega, ⟨F', G', W', u', tab', lf', tl', hp', hR', hC', hu', by assumption, by assumption, h15⟩⟩
end Go.Dn
/- A page for whose tables there isn't room is refused, and all is as it was. -/
namespace Go.Dn

variable {A : AH} {l R : List SP} {r b t : Nat} {N T u q : Int} {W Wk : Int → Int → Int} {F G : Int → Prop} {root : Int} {tab : Tab} {lf : Int → Option Lf} {tl : List Int}
theorem cMap {p fm : Int} {pw pu px : Bool} {Q : Int → AH → Prop} (h : Own (DO N r b t T (trC N q) F G W u R) A) (hp : StdP N F G) (hR : Rest G W root tab lf tl) (hT : u + 3 ≤ T) (hpr : 0 ≤ p ∧ p < 34359738368) (hfr : 0 ≤ fm ∧ fm < 1048576) (hl : lf p = none)
    (h8 : q - u < needT tab p → ∀ W' A', Rest G W' root tab lf tl → Own (DO N r b t T (trC N q) F G W' u R) A' → Q 8 A')
    (hk : needT tab p ≤ q - u → ∀ tk F' G' W' tab' A', tk.length = needT tab p → StdP N F' G' → Rest G' W' root tab' (setL lf p (some ⟨fm, pw, pu, px⟩)) (tl ++ tk) → Own (DO N r b t T (trC N q) F' G' W' (u + tk.length) R) A' → Q 0 A') :
    table_Map_A (some ⟨r, 0, none⟩) (some ⟨b, 0, none⟩) (some ⟨t, 0, none⟩) 1 root p fm pw pu px Q A := by
  have hneed : needT tab p ≤ 3 := by unfold needT; split <;> split <;> split <;> omega
  refine RMap_spec (i := 1) (nd := ⟨0, q, u, 0, true⟩) h rfl rfl hp.inF hp.inG hR (fun g => by omega) (fun _ _ _ _ g => absurd hl g) (fun _ _ _ _ _ e W' A' he _ hR' _ hA => ?_) fun _ _ _ _ _ tk W' tab' A' hlen q1 q2 htk hR' _ _ hA => ?_
  · simp only at he
    have he8 : e = 8 := by
      rcases he with he | he
      · exact he.1
      · omega
    subst he8
    exact h8 (by rcases he with he | he <;> omega) W' A' hR' hA
  · simp only at q1
    refine hk (by omega) tk (fun x => F x ∧ x ∉ tk) (fun x => G x ∨ x ∈ tk) W' tab' A' hlen ⟨fun x hx => hp.inF x hx.1, fun x hx => ?_⟩ hR' ?_
    · rcases hx with hx | hx
      · exact hp.inG x hx
      · exact hp.inF x (htk x hx)
    · have hA : Own (RamW r N [] W' :: Bud b (fun x => F x ∧ x ∉ tk) (fun x => G x ∨ x ∈ tk) (T - u - tk.length) :: TreeS t (trC N q (u + tk.length)) :: R) A' := hA
      rw [show T - u - (tk.length : Int) = T - (u + tk.length) by omega] at hA
      exact hA
theorem cPages {bx : Int} {pb pt : Option Addr} {tr : Int → List Nd} {Q : Sl → AH → Prop} (h : Own (DO N r b t T tr F G W u R) A) (hp : StdP N F G) (hR : Rest G W root tab lf tl) (ps : List Int) (hs : ps.Pairwise (· < ·)) (hm : ∀ p, p ∈ ps ↔ lf p ≠ none)
    (hk : ∀ s A', s.len = ps.length → Own R A' → Q s A') : table_Pages_A (some ⟨r, 0, none⟩) pb pt bx root Q A := by
  refine RPages_spec h hp.inG hR fun s ps' A' h1 _ h3 h4 hA => hk s A' ?_ hA.tail.tail.tail.tail
  rw [h1, rise_ext h3 hs fun p => by rw [h4, hm]]
set_option maxHeartbeats 2000000 in
theorem TableWhole_spec {k1 p1 f1 k2 p2 f2 room : Int} {w1 u1 x1 w2 u2 x2 : Bool} {Q : Bool → AH → Prop} (h : Own R A) (hk : ∀ A', Own R A' → Q true A') : demesnelaw09_TableWhole_A k1 p1 f1 w1 u1 x1 k2 p2 f2 w2 u2 x2 room Q A := by
  unfold demesnelaw09_TableWhole_A demesnelaw09_TableWhole_G
  refine ⟨fun h' => h' = A ∧ 0 ≤ room ∧ room ≤ 10 ∧ (0 ≤ p1 ∧ p1 < 34359738368) ∧ (0 ≤ p2 ∧ p2 < 34359738368) ∧ p1 ≠ p2, ?_, bsel_in (fun _ => awake_spec h hk) fun c1 => bsel_in (fun _ => awake_spec h hk) fun c2 => bsel_in (fun _ => awake_spec h hk) fun c3 => bsel_in (fun _ => awake_spec h hk) fun c4 =>
    bsel_in (fun _ => awake_spec h hk) fun c5 => bsel_in (fun _ => awake_spec h hk) fun c6 => bsel_in (fun _ => awake_spec h hk) fun c7 => ?_⟩
  rotate_left
  · have c1 := of_decide_eq_false c1
    have c2 := of_decide_eq_false c2
    have c3 := of_decide_eq_false c3
    have c4 := of_decide_eq_false c4
    have c5 := of_decide_eq_false c5
    have c6 := of_decide_eq_false c6
    exact ⟨rfl, by omega, by omega, ⟨by omega, by omega⟩, ⟨by omega, by omega⟩, by simpa using c7⟩
  intro A0 ⟨e0, r0, r1, hp1, hp2, hne⟩
  subst e0
  refine sPurse (N := 40) h ⟨by omega, by omega⟩ fun r b t A1 hq1 h1 => bsel_f rfl ?_
  refine sKernel h1 hq1 ⟨by omega, by omega⟩ fun top mid A2 W2 htop hmid hKOK hq2 h2 => ?_
  have hrt := has0.1 (hq1.inF top htop)
  rw [w64 (n := 1 + room) (by omega) (by omega)]
  refine cChild (q := 1 + room) h2 ⟨by omega, by omega⟩ fun A3 h3 => ?_
  refine cRoot h3 hq2 ⟨by omega, by omega⟩ (by omega) ⟨hrt.1, by omega⟩ fun root A4 W4 hroot hq4 hR4 h4 => ?_
  refine ⟨fun h' => h' = A4, ?_, bsel_f rfl (bsel_f rfl rfl)⟩
  intro A5 e5
  subst e5
  refine cFree h4 ?_
  have hneed3 : needT (tab0 root) p1 = 3 := by unfold needT tab0; simp
  refine cMap h4 hq4 hR4 (by omega) hp1 ⟨by omega, by omega⟩ rfl (fun hlt W' A6 hR6 h6 => ?_) fun hge tk F' G' W' tab' A6 hlen hq6 hR6 h6 => ?_
  · -- no room
    refine bsel_t rfl (awake_spec h6 fun A7 h7 => bsel_t rfl (bsel_t (decide_eq_true (by omega)) (bsel_t rfl ?_)))
    have h7 : Own (DO 40 r b t 37 (trC 40 (1 + room)) _ _ W' 1 R) A7 := h7
    refine cUsed h7 (bsel_t rfl (cFree h7 (bsel_t (by simp) ?_)))
    exact cPages h7 hq4 hR6 [] List.Pairwise.nil (fun p => by simp) fun s A8 hl h8 => by rw [hl]; exact hk A8 h8
  · have hl3 : tk.length = 3 := by omega
    have h6 : Own (DO 40 r b t 37 (trC 40 (1 + room)) F' G' W' 4 R) A6 := by
      rw [hl3] at h6; exact h6
    refine bsel_f rfl (cUsed h6 ?_)
    have hlf1 : setL (fun _ => none) p1 (some ⟨1, w1, u1, x1⟩) p1 = some ⟨1, w1, u1, x1⟩ := by unfold setL; rw [if_pos rfl]
    have hlf2 : setL (fun _ => none) p1 (some ⟨1, w1, u1, x1⟩) p2 = none := by unfold setL; rw [if_neg (fun z => hne z.symm)]
    have hle := cLe h6
    have fin : ∀ {e : Int} {F2 G2 W2 u2 tab2 lf2 tl2 A7}, StdP 40 F2 G2 → Rest G2 W2 root tab2 lf2 tl2 → Own (DO 40 r b t 37 (trC 40 (1 + room)) F2 G2 W2 u2 R) A7 → lf2 p1 = some ⟨1, w1, u1, x1⟩ →
        (e = 8 ∧ u2 = 4 ∧ (∀ p, p ∈ [p1] ↔ lf2 p ≠ none) ∨ e = 0 ∧ u2 ≤ 1 + room ∧ ∃ ps : List Int, ps.Pairwise (· < ·) ∧ ps.length = 2 ∧ ∀ p, p ∈ ps ↔ lf2 p ≠ none) →
        table_Query_A (some ⟨r, 0, none⟩) (some ⟨b, 0, none⟩) (some ⟨t, 0, none⟩) 1 root p1 (fun n50 b51 b52 b53 b54 h55 => ∃ R56 : AH → Prop, (∀ h57, R56 h57 →
          (bsel (e != (0 : Int)) (demesnelaw09_awake_A (fun b58 h59 => bsel b58 (bsel (e == (8 : Int)) (demesnelaw09_Used_A (some ⟨r, 0, none⟩) (some ⟨b, 0, none⟩) (some ⟨t, 0, none⟩) 1 (fun n60 h61 => bsel (n60 == (4 : Int)) (table_Pages_A (some ⟨r, 0, none⟩) (some ⟨b, 0, none⟩) (some ⟨t, 0, none⟩) 1 root (fun s62 h63 => Q ((Int.ofNat s62.len) == (1 : Int)) h63) h61) (Q false h61)) h59) (Q false h59)) (Q false h59)) h57)
            (demesnelaw09_awake_A (fun b64 h65 => bsel b64 (demesnelaw09_Used_A (some ⟨r, 0, none⟩) (some ⟨b, 0, none⟩) (some ⟨t, 0, none⟩) 1 (fun n66 h67 => bsel (decide (n66 ≤ 1 + room)) (table_Pages_A (some ⟨r, 0, none⟩) (some ⟨b, 0, none⟩) (some ⟨t, 0, none⟩) 1 root (fun s68 h69 => Q ((Int.ofNat s68.len) == (2 : Int)) h69) h67) (Q false h67)) h65) (Q false h65)) h57))) ∧
          (bsel (decide (room < (3 : Int))) (Q false h55) (bsel ((4 : Int) != (4 : Int)) (Q false h55) (bsel (!b54) (Q false h55) (bsel (n50 != (1 : Int)) (Q false h55) (bsel (!((b51 == w1) && ((b52 == u1) && ((b53 == x1) && true)))) (Q false h55) (R56 h55))))))) A7 := by
      intro e F2 G2 W2 u2 tab2 lf2 tl2 A7 hq7 hR7 h7 hx hcase
      refine RQuery_spec h7 hq7.inG hR7 (fun z => by rw [hx] at z; cases z) fun y hy A8 h8 => ?_
      rw [hx] at hy
      cases hy
      have h8 : Own (DO 40 r b t 37 (trC 40 (1 + room)) F2 G2 W2 u2 R) A8 := h8
      refine ⟨fun h' => h' = A8, ?_, bsel_f (decide_eq_false (by omega)) (bsel_f rfl (bsel_f rfl (bsel_f rfl (bsel_f (by simp) rfl))))⟩
      intro A9 e9
      subst e9
      rcases hcase with ⟨e8, eu, hps⟩ | ⟨e0, eu, ps, g1, g2, g3⟩
      · subst e8 eu
        refine bsel_t rfl (awake_spec h8 fun A10 h10 => bsel_t rfl (bsel_t rfl ?_))
        have h10 : Own (DO 40 r b t 37 (trC 40 (1 + room)) F2 G2 W2 4 R) A10 := h10
        refine cUsed h10 (bsel_t rfl ?_)
        exact cPages h10 hq7 hR7 [p1] (by simp) hps fun s A11 hl h11 => by rw [hl]; exact hk A11 h11
      · subst e0
        refine bsel_f rfl (awake_spec h8 fun A10 h10 => bsel_t rfl ?_)
        have h10 : Own (DO 40 r b t 37 (trC 40 (1 + room)) F2 G2 W2 u2 R) A10 := h10
        refine cUsed h10 (bsel_t (decide_eq_true eu) ?_)
        exact cPages h10 hq7 hR7 ps g1 g3 fun s A11 hl h11 => by rw [hl, g2]; exact hk A11 h11
    refine cMap h6 hq6 hR6 (by omega) hp2 ⟨by omega, by omega⟩ hlf2 (fun _ W'' A7 hR7 h7 => ?_) fun hge2 tk2 F2 G2 W2 tab2 A7 hlen2 hq7 hR7 h7 => ?_
    · refine fin (e := 8) hq6 hR7 h7 hlf1 (.inl ⟨rfl, rfl, fun p => ?_⟩)
      rw [List.mem_singleton]
      unfold setL
      by_cases z : p = p1
      · rw [if_pos z]; simp [z]
      · rw [if_neg z]; simp [z]
    · have hle2 := cLe h7
      refine fin (e := 0) hq7 hR7 h7 ?_ (.inr ⟨rfl, hle2, insP [p1] p2, insP_rise (by simp) (by simp [Ne.symm hne]), ?_, fun p => ?_⟩)
      · unfold setL
        rw [if_neg hne, if_pos rfl]
      · unfold insP; split <;> simp [insP]
      · rw [insP_mem, List.mem_singleton]
        unfold setL
        by_cases z : p = p2
        · simp [z]
        · by_cases z2 : p = p1
          · rw [if_neg z, if_pos z2]; simp [z2]
          · rw [if_neg z, if_neg z2]; simp [z, z2]
end Go.Dn
