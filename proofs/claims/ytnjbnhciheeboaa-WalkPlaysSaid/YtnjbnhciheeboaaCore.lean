/- Walks: what the access has no part in; what marks leave as it is. -/
import Derived.Test.YtnjbnhciheeboaaLay
namespace Go.Dn

inductive COut where
  | err (e : Int)
  | fault (b : Int)
  | leaf (frame : Int) (w u x g lg d : Bool) (places : List Int)
def walkC (fr : Int) (hs : List (Int × Int)) (M : Int → Int) (a : Int) : Nat → Int → Bool → Bool → Bool → List Int → COut
  | 0, _, _, _, _, _ => .err 0
  | lv + 1, t, w, u, x, ps =>
    if hasF fr hs t = false then .err 2
    else if bitZ (le M (placeZ t a lv) 8) 0 = false then .fault 0
    else if resvd (le M (placeZ t a lv) 8) ((lv : Int) + 1) = true then .fault 9
    else if lv = 0 ∨ (lv = 1 ∧ bitZ (le M (placeZ t a lv) 8) 7 = true) then
      .leaf (if lv = 1 then frameZ (le M (placeZ t a lv) 8) + partZ a 12 else frameZ (le M (placeZ t a lv) 8)) (w && bitZ (le M (placeZ t a lv) 8) 1) (u && bitZ (le M (placeZ t a lv) 8) 2) (x && !bitZ (le M (placeZ t a lv) 8) 63)
          (bitZ (le M (placeZ t a lv) 8) 8) (lv == 1) (bitZ (le M (placeZ t a lv) 8) 6) (ps ++ [placeZ t a lv])
    else walkC fr hs M a lv (frameZ (le M (placeZ t a lv) 8)) (w && bitZ (le M (placeZ t a lv) 8) 1) (u && bitZ (le M (placeZ t a lv) 8) 2) (x && !bitZ (le M (placeZ t a lv) 8) 63) (ps ++ [placeZ t a lv])
def fin (aw au af : Bool) : COut → WOut
  | .err e => .err e
  | .fault b => .fault (b + codeZ aw au af)
  | .leaf f w u x g lg d ps => if mayZ w u x aw au af = true then .ok f w u x g lg (d || aw) ps else .fault (1 + codeZ aw au af)
variable {fr : Int} {hs : List (Int × Int)} {M N : Int → Int} {a : Int} {aw au af : Bool}
theorem walkL_fin : ∀ (n : Nat) (t : Int) (w u x : Bool) (ps : List Int), walkL fr hs M a aw au af n t w u x ps = fin aw au af (walkC fr hs M a n t w u x ps)
  | 0, _, _, _, _, _ => rfl
  | lv + 1, t, w, u, x, ps => by
    rw [walkL, walkC]
    split
    · rfl
    · split
      · simp [fin]
      · split
        · rfl
        · split
          · rfl
          · exact walkL_fin lv _ _ _ _ _
def coreZ (fr : Int) (hs : List (Int × Int)) (M : Int → Int) (root a : Int) : COut :=
  if canonZ a = false then .err 1 else if hasF fr hs root = false then .err 2 else walkC fr hs M a 4 root true true true []
theorem walkZ_fin {root : Int} : walkZ fr hs M root a aw au af = fin aw au af (coreZ fr hs M root a) := by
  unfold walkZ coreZ
  split
  · rfl
  · split
    · rfl
    · exact walkL_fin ..

/- Two entries that differ in their marks alone. -/
theorem or_div {x j k : Nat} (h : j < k) : (x ||| 2 ^ j) / 2 ^ k = x / 2 ^ k := by
  rw [← Nat.shiftRight_eq_div_pow, ← Nat.shiftRight_eq_div_pow, Nat.shiftRight_or_distrib]
  have : 2 ^ j >>> k = 0 := by
    rw [Nat.shiftRight_eq_div_pow]
    exact Nat.div_eq_of_lt (Nat.pow_lt_pow_right (by omega) h)
  rw [this, Nat.or_zero]
theorem or_nat {x : Int} (k : Nat) (hk : k ≤ 63) (hx : U64 x) : ∃ n : Nat, x = n ∧ (if bitZ x k then x else x + ((2 ^ k : Nat) : Int)) = ((n ||| 2 ^ k : Nat) : Int) := by
  obtain ⟨n, rfl⟩ := Int.eq_ofNat_of_zero_le hx.1
  refine ⟨n, rfl, ?_⟩
  rw [← bitZ_or k _ rfl hk hx.1 hx.2]
  have h2 : (2 : Nat) ^ k ≤ 2 ^ 63 := Nat.pow_le_pow_right (by omega) hk
  have := hx.2
  exact bits_or (by omega) (by omega)
theorem bitZ_nat (n k : Nat) : bitZ (n : Int) k = n.testBit k := by
  unfold bitZ
  rw [Nat.testBit_eq_decide_div_mod_eq]
  have : (n : Int) / 2 ^ k % 2 = ((n / 2 ^ k % 2 : Nat) : Int) := by simp
  rw [this]
  by_cases h : n / 2 ^ k % 2 = 1
  · simp [h]
  · simp [h]; omega
theorem or_bit {x : Int} (k j : Nat) (hk : k ≤ 63) (hx : U64 x) : bitZ (if bitZ x k then x else x + ((2 ^ k : Nat) : Int)) j = (bitZ x j || (k == j)) := by
  obtain ⟨n, rfl, e⟩ := or_nat k hk hx
  rw [e, bitZ_nat, bitZ_nat, Nat.testBit_or, Nat.testBit_two_pow]
  rfl
theorem or_high {x : Int} (k j : Nat) (hk : k ≤ 63) (hj : k < j) (hx : U64 x) : (if bitZ x k then x else x + ((2 ^ k : Nat) : Int)) / 2 ^ j = x / 2 ^ j := by
  obtain ⟨n, rfl, e⟩ := or_nat k hk hx
  rw [e]
  have := or_div (x := n) hj
  have h2 : ((n ||| 2 ^ k : Nat) : Int) / 2 ^ j = (((n ||| 2 ^ k) / 2 ^ j : Nat) : Int) := by simp
  rw [h2, this]
  simp
/-- The same entry but for its marks: for bit 5, and where 'b' says so for bit 6. -/
structure Like (b : Bool) (x y : Int) : Prop where
  u : U64 x
  v : U64 y
  low : ∀ j, j ≠ 5 → j ≠ 6 → bitZ y j = bitZ x j
  dirty : b = false → bitZ y 6 = bitZ x 6
  five : bitZ x 5 = true → bitZ y 5 = true
  six : bitZ x 6 = true → bitZ y 6 = true
  high : ∀ j, 6 < j → y / 2 ^ j = x / 2 ^ j
theorem Like.refl {b : Bool} {x : Int} (h : U64 x) : Like b x x := ⟨h, h, fun _ _ _ => rfl, fun _ => rfl, fun h => h, fun h => h, fun _ _ => rfl⟩
theorem Like.trans {b : Bool} {x y z : Int} (h : Like b x y) (k : Like b y z) : Like b x z :=
  ⟨h.u, k.v, fun j h5 h6 => (k.low j h5 h6).trans (h.low j h5 h6), fun e => (k.dirty e).trans (h.dirty e), fun e => k.five (h.five e), fun e => k.six (h.six e), fun j e => (k.high j e).trans (h.high j e)⟩
theorem Like.weak {b : Bool} {x y : Int} (h : Like false x y) : Like b x y := ⟨h.u, h.v, h.low, fun _ => h.dirty rfl, h.five, h.six, h.high⟩
theorem like5 {b : Bool} {x : Int} (h : U64 x) : Like b x (or5 x) where
  u := h
  v := or5_u64 h
  low j h5 _ := by
    have := or_bit 5 j (by omega) h
    rw [show (5 == j) = false by simp; omega, Bool.or_false] at this
    exact this
  dirty _ := by
    have := or_bit 5 6 (by omega) h
    unfold or5
    simpa using this
  five e := by unfold or5; rw [e]; simpa using e
  six e := by
    have := or_bit 5 6 (by omega) h
    rw [e] at this
    exact this
  high j e := or_high 5 j (by omega) (by omega) h
theorem like6 {x : Int} (h : U64 x) : Like true x (or6 x) where
  u := h
  v := or6_u64 h
  low j _ h6 := by
    have := or_bit 6 j (by omega) h
    rw [show (6 == j) = false by simp; omega, Bool.or_false] at this
    exact this
  dirty e := by cases e
  five e := by
    have := or_bit 6 5 (by omega) h
    rw [e] at this
    exact this
  six e := by unfold or6; rw [e]; simpa using e
  high j e := or_high 6 j (by omega) (by omega) h
theorem like_mark {wr last : Bool} {x : Int} (h : U64 x) : Like wr x (markV wr last x) := by
  unfold markV
  cases wr
  · exact like5 h
  · cases last
    · exact like5 h
    · exact (like5 h).trans (like6 (or5_u64 h))
theorem Like.frame {b : Bool} {x y : Int} (h : Like b x y) : frameZ y = frameZ x := by
  unfold frameZ
  have := h.high 12 (by omega)
  rw [show (2 : Int) ^ 12 = 4096 by rfl] at this
  rw [this]
theorem Like.resvd {b : Bool} {x y lv : Int} (h : Like b x y) : resvd y lv = resvd x lv := by
  unfold Go.Dn.resvd
  rw [h.low 0 (by omega) (by omega), h.low 7 (by omega) (by omega), h.high 32 (by omega), h.high 12 (by omega)]
/-- Two memories whose entries differ in their marks alone. -/
def LikeM (b : Bool) (M N : Int → Int) : Prop := ∀ p : Int, p % 8 = 0 → Like b (le M p 8) (le N p 8)
theorem LikeM.trans {b : Bool} {L : Int → Int} (h : LikeM b L M) (k : LikeM b M N) : LikeM b L N := fun p e => (h p e).trans (k p e)
theorem LikeM.weak {b : Bool} (h : LikeM false M N) : LikeM b M N := fun p e => (h p e).weak
theorem likeM_st {b : Bool} (hb : ∀ a, 0 ≤ M a ∧ M a < 256) {p v : Int} (hp : p % 8 = 0) (h : Like b (le M p 8) v) : LikeM b M (stM M p 8 v) := by
  intro q hq
  by_cases e : q = p
  · subst e
    rw [le_same M q v 8 h.v.1 h.v.2]
    exact h
  · rw [le_apart M p q v 8 8 (by omega)]
    have := le_bound hb 8 q
    exact Like.refl ⟨this.1, this.2⟩
theorem likeM_refl {b : Bool} (hb : ∀ a, 0 ≤ M a ∧ M a < 256) : LikeM b M M := fun q _ => by
  have := le_bound hb 8 q
  exact Like.refl ⟨this.1, this.2⟩
theorem likeM_mark {wr : Bool} : ∀ (ps : List Int) (M : Int → Int), (∀ a, 0 ≤ M a ∧ M a < 256) → (∀ p ∈ ps, p % 8 = 0) → LikeM wr M (markL M wr ps)
  | [], M, hb, _ => likeM_refl hb
  | p :: ps, M, hb, hp => by
    have h1 := le_bound hb 8 p
    have hU : U64 (le M p 8) := ⟨h1.1, h1.2⟩
    refine LikeM.trans (likeM_st hb (hp p (by simp)) (like_mark (wr := wr) (last := ps.isEmpty) hU)) ?_
    exact likeM_mark ps _ (stM_byte hb) fun q hq => hp q (by simp [hq])
theorem place_mod {t a : Int} {lv : Nat} : placeZ t a lv % 8 = 0 := by unfold placeZ; omega
theorem bit5_or5 {x : Int} (h : U64 x) : bitZ (or5 x) 5 = true := by
  have := or_bit 5 5 (by omega) h
  unfold or5
  simpa using this
theorem bit6_or6 {x : Int} (h : U64 x) : bitZ (or6 x) 6 = true := by
  have := or_bit 6 6 (by omega) h
  unfold or6
  simpa using this
/-- Each place is marked; the last one as written to, if it was. -/
theorem mark_five {wr : Bool} : ∀ (ps : List Int) (M : Int → Int), (∀ a, 0 ≤ M a ∧ M a < 256) → (∀ p ∈ ps, p % 8 = 0) → ∀ p ∈ ps, bitZ (le (markL M wr ps) p 8) 5 = true ∧ (wr = true → ps.getLast? = some p → bitZ (le (markL M wr ps) p 8) 6 = true)
  | [], _, _, _, p, hp => by simp at hp
  | q :: ps, M, hb, hm, p, hp => by
    have hq := hm q (by simp)
    have hb1 := le_bound hb 8 q
    have hU : U64 (le M q 8) := ⟨hb1.1, hb1.2⟩
    have hm2 : ∀ p ∈ ps, p % 8 = 0 := fun c hc => hm c (by simp [hc])
    have hrest := likeM_mark (wr := wr) ps (stM M q 8 (markV wr ps.isEmpty (le M q 8))) (stM_byte hb) hm2
    by_cases hin : p ∈ ps
    · have ih := mark_five (wr := wr) ps (stM M q 8 (markV wr ps.isEmpty (le M q 8))) (stM_byte hb) hm2 p hin
      refine ⟨ih.1, fun hw hl => ih.2 hw ?_⟩
      cases ps with
      | nil => simp at hin
      | cons c cs => rw [List.getLast?_cons_cons] at hl; exact hl
    · have e : p = q := by simp at hp; rcases hp with h | h; exact h; exact absurd h hin
      subst e
      have k := hrest p hq
      rw [le_same M p _ 8 (markV_u64 hU).1 (markV_u64 hU).2] at k
      refine ⟨k.five ?_, fun hw hl => k.six ?_⟩
      · unfold markV
        split
        · exact (like6 (or5_u64 hU)).five (bit5_or5 hU)
        · exact bit5_or5 hU
      · have : ps = [] := by
          cases ps with
          | nil => rfl
          | cons c cs =>
            rw [List.getLast?_cons_cons] at hl
            exact absurd (List.mem_of_getLast? hl) hin
        subst this
        unfold markV
        rw [hw]
        exact bit6_or6 (or5_u64 hU)
inductive CEq (b : Bool) : COut → COut → Prop
  | err (e : Int) : CEq b (.err e) (.err e)
  | fault (c : Int) : CEq b (.fault c) (.fault c)
  | leaf (f : Int) (w u x g lg d d' : Bool) (ps : List Int) (hd : b = false → d' = d) : CEq b (.leaf f w u x g lg d ps) (.leaf f w u x g lg d' ps)
theorem walkC_like {b : Bool} (h : LikeM b M N) : ∀ (n : Nat) (t : Int) (w u x : Bool) (ps : List Int), CEq b (walkC fr hs M a n t w u x ps) (walkC fr hs N a n t w u x ps)
  | 0, _, _, _, _, _ => .err 0
  | lv + 1, t, w, u, x, ps => by
    have k := h (placeZ t a lv) place_mod
    rw [walkC, walkC, k.low 0 (by omega) (by omega), k.resvd, k.low 7 (by omega) (by omega), k.frame, k.low 1 (by omega) (by omega), k.low 2 (by omega) (by omega), k.low 63 (by omega) (by omega), k.low 8 (by omega) (by omega)]
    split
    · exact .err 2
    · split
      · exact .fault 0
      · split
        · exact .fault 9
        · split
          · exact .leaf _ _ _ _ _ _ _ _ _ k.dirty
          · exact walkC_like h lv _ _ _ _ _
theorem coreZ_like {b : Bool} {root : Int} (h : LikeM b M N) : CEq b (coreZ fr hs M root a) (coreZ fr hs N root a) := by
  unfold coreZ
  split
  · exact .err 1
  · split
    · exact .err 2
    · exact walkC_like h ..
/-- Walked again for the same access: the same. -/
theorem fin_like {x y : COut} (h : CEq aw x y) : fin aw au af y = fin aw au af x := by
  cases h with
  | err e => rfl
  | fault c => rfl
  | leaf f w u x g lg d d' ps hd =>
    unfold fin
    cases aw
    · rw [hd rfl]
    · simp
theorem walkZ_like {root : Int} (h : LikeM aw M N) : walkZ fr hs N root a aw au af = walkZ fr hs M root a aw au af := by
  rw [walkZ_fin, walkZ_fin, fin_like (coreZ_like h)]
/-- The places of a walk stand in frames that are there, on whole words. -/
theorem walkC_places (hf : 0 ≤ fr ∧ fr ≤ 1048576) : ∀ (n : Nat) (t : Int) (w u x : Bool) (ps : List Int), (∀ p ∈ ps, p % 8 = 0) → ∀ f w' u' x' g lg d qs, walkC fr hs M a n t w u x ps = .leaf f w' u' x' g lg d qs → ∀ p ∈ qs, p % 8 = 0
  | 0, _, _, _, _, _, _, _, _, _, _, _, _, _, _, h => by cases h
  | lv + 1, t, w, u, x, ps, hps, f, w', u', x', g, lg, d, qs, h => by
    have hps2 : ∀ p ∈ ps ++ [placeZ t a lv], p % 8 = 0 := by
      intro p hp
      rcases List.mem_append.1 hp with hp | hp
      · exact hps p hp
      · simp at hp; subst hp; exact place_mod
    rw [walkC] at h
    split at h
    · cases h
    · split at h
      · cases h
      · split at h
        · cases h
        · split at h
          · cases h; exact hps2
          · exact walkC_places hf lv _ _ _ _ _ hps2 _ _ _ _ _ _ _ _ h
/-- Two addresses of one page are walked alike. -/
theorem part_page {a b : Int} (h : a / 4096 = b / 4096) (k : Nat) : partZ a (12 + k) = partZ b (12 + k) := by
  unfold partZ
  rw [Int.pow_add, ← Int.ediv_ediv_of_nonneg (by simp), ← Int.ediv_ediv_of_nonneg (by simp)]
  rw [show (2 : Int) ^ 12 = 4096 by rfl, h]
theorem walkC_page {b : Int} (h : a / 4096 = b / 4096) : ∀ (n : Nat) (t : Int) (w u x : Bool) (ps : List Int), walkC fr hs M a n t w u x ps = walkC fr hs M b n t w u x ps
  | 0, _, _, _, _, _ => rfl
  | lv + 1, t, w, u, x, ps => by
    have hp : placeZ t a lv = placeZ t b lv := by unfold placeZ; rw [part_page h]
    have h12 : partZ a 12 = partZ b 12 := part_page h 0
    rw [walkC, walkC, hp, h12]
    simp only [walkC_page h lv]
theorem coreZ_page {b root : Int} (h : a / 4096 = b / 4096) : coreZ fr hs M root a = coreZ fr hs M root b := by
  unfold coreZ
  have : canonZ a = canonZ b := by
    unfold canonZ
    rw [show (2 : Int) ^ 47 = 2 ^ 12 * 2 ^ 35 by rfl, ← Int.ediv_ediv_of_nonneg (by simp), ← Int.ediv_ediv_of_nonneg (by simp), show (2 : Int) ^ 12 = 4096 by rfl, h]
  rw [this, walkC_page h]
end Go.Dn
