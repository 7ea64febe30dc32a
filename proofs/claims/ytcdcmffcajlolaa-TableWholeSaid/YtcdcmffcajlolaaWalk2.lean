/- A walk, as a whole. -/
import Derived.Test.YtcdcmffcajlolaaWalk
namespace Go.Dn

variable {A : AH} {l : List SP} {r : Nat} {fr : Int} {hs : List (Int × Int)} {M : Int → Int}
abbrev WQ := Int → Bool → Bool → Bool → Bool → Bool → Bool → Int → Int → Int → AH → Prop
def WPost (l : List SP) (i r : Nat) (fr : Int) (hs : List (Int × Int)) (M : Int → Int) (a : Int) (aw : Bool) (Q : WQ) : WOut → Prop
  | .err e => ∀ A', Own l A' → Q 0 false false false false false false 0 0 e A'
  | .fault c => ∀ A', Own l A' → Q 0 false false false false false false a c 9 A'
  | .ok f w u x g lg d ps => ∀ A', Own (l.set i (RamS r fr hs (markL M aw ps))) A' → Q f w u x g lg d 0 0 0 A'
theorem rec_end {b2 b4 b6 : Nat} {f0 z4 z5 z6 y0 y1 y2 : Int} {g1 g2 g3 g4 g5 g6 : Bool} {Q : WQ} (h : Own (At b6 [.int .i64 z6] :: At b4 [.int .u64 z4, .int .i64 z5] :: At b2 [.int .i64 f0, .bool g1, .bool g2, .bool g3, .bool g4, .bool g5, .bool g6] :: l) A)
    (hk : ∀ A', Own l A' → Q 0 false false false false false false y0 y1 y2 A') :
    walk_Walk_1_pA (some (Addr.mk b2 0 none)) (some (Addr.mk b4 0 none)) (some (Addr.mk b6 0 none)) y0 y1 y2 (fun h82 =>
(aI .i64 (Addr.mk b2 0 none) h82 fun n86 =>
(aB (Addr.add (Addr.mk b2 0 none) 1) h82 fun b87 =>
(aB (Addr.add (Addr.mk b2 0 none) 2) h82 fun b88 =>
(aB (Addr.add (Addr.mk b2 0 none) 3) h82 fun b89 =>
(aB (Addr.add (Addr.mk b2 0 none) 4) h82 fun b90 =>
(aB (Addr.add (Addr.mk b2 0 none) 5) h82 fun b91 =>
(aB (Addr.add (Addr.mk b2 0 none) 6) h82 fun b92 =>
(aI .u64 (Addr.mk b4 0 none) h82 fun n93 =>
(aI .i64 (Addr.add (Addr.mk b4 0 none) 1) h82 fun n94 =>
(aI .i64 (Addr.mk b6 0 none) h82 fun n95 =>
(Q n86 b87 b88 b89 b90 b91 b92 n93 n94 n95 h82)))))))))))) A := by
  unfold walk_Walk_1_pA
  simp only [onSome]
  repeat (first | (first | (refine st_C (i := 0) h rfl rfl rfl fun _ h => ?_; try simp only [List.set_cons_zero, List.set_cons_succ] at h) | (refine st_C (i := 1) h rfl rfl rfl fun _ h => ?_; try simp only [List.set_cons_zero, List.set_cons_succ] at h) | (refine st_C (i := 2) h rfl rfl rfl fun _ h => ?_; try simp only [List.set_cons_zero, List.set_cons_succ] at h)) | (first | refine ld_I (i := 0) h rfl rfl ?_ | refine ld_B (i := 0) h rfl rfl ?_ | refine ld_P (i := 0) h rfl rfl ?_ | refine ld_S (i := 0) h rfl rfl ?_ | refine ld_M (i := 0) h rfl rfl ?_ | refine ld_I (i := 1) h rfl rfl ?_ | refine ld_B (i := 1) h rfl rfl ?_ | refine ld_P (i := 1) h rfl rfl ?_ | refine ld_S (i := 1) h rfl rfl ?_ | refine ld_M (i := 1) h rfl rfl ?_ | refine ld_I (i := 2) h rfl rfl ?_ | refine ld_B (i := 2) h rfl rfl ?_ | refine ld_P (i := 2) h rfl rfl ?_ | refine ld_S (i := 2) h rfl rfl ?_ | refine ld_M (i := 2) h rfl rfl ?_))
  exact hk _ h.tail.tail.tail
variable {a t : Int} {aw au af w u x : Bool} {lv : Nat} {ps : List Int}
theorem walkL_err (h : hasF fr hs t = false) : walkL fr hs M a aw au af (lv + 1) t w u x ps = .err 2 := by
  rw [walkL, if_pos h]
theorem walkL_f0 (h : hasF fr hs t = true) (h0 : bitZ (le M (placeZ t a lv) 8) 0 = false) : walkL fr hs M a aw au af (lv + 1) t w u x ps = .fault (codeZ aw au af) := by
  rw [walkL, if_neg (by simp [h]), if_pos h0]
theorem walkL_f9 (h : hasF fr hs t = true) (h0 : bitZ (le M (placeZ t a lv) 8) 0 = true) (h9 : resvd (le M (placeZ t a lv) 8) ((lv : Int) + 1) = true) : walkL fr hs M a aw au af (lv + 1) t w u x ps = .fault (9 + codeZ aw au af) := by
  rw [walkL, if_neg (by simp [h]), if_neg (by simp [h0]), if_pos h9]
theorem walkL_go (h : hasF fr hs t = true) (h0 : bitZ (le M (placeZ t a lv) 8) 0 = true) (h9 : resvd (le M (placeZ t a lv) 8) ((lv : Int) + 1) = false) (hg : ¬(lv = 0 ∨ (lv = 1 ∧ bitZ (le M (placeZ t a lv) 8) 7 = true))) :
    walkL fr hs M a aw au af (lv + 1) t w u x ps = walkL fr hs M a aw au af lv (frameZ (le M (placeZ t a lv) 8)) (w && bitZ (le M (placeZ t a lv) 8) 1) (u && bitZ (le M (placeZ t a lv) 8) 2) (x && !bitZ (le M (placeZ t a lv) 8) 63) (ps ++ [placeZ t a lv]) := by
  rw [walkL, if_neg (by simp [h]), if_neg (by simp [h0]), if_neg (by simp [h9]), if_neg hg]
theorem walkL_end (h : hasF fr hs t = true) (h0 : bitZ (le M (placeZ t a lv) 8) 0 = true) (h9 : resvd (le M (placeZ t a lv) 8) ((lv : Int) + 1) = false) (hg : lv = 0 ∨ (lv = 1 ∧ bitZ (le M (placeZ t a lv) 8) 7 = true)) :
    walkL fr hs M a aw au af (lv + 1) t w u x ps = if mayZ (w && bitZ (le M (placeZ t a lv) 8) 1) (u && bitZ (le M (placeZ t a lv) 8) 2) (x && !bitZ (le M (placeZ t a lv) 8) 63) aw au af = true then
        .ok (if lv = 1 then frameZ (le M (placeZ t a lv) 8) + partZ a 12 else frameZ (le M (placeZ t a lv) 8)) (w && bitZ (le M (placeZ t a lv) 8) 1) (u && bitZ (le M (placeZ t a lv) 8) 2) (x && !bitZ (le M (placeZ t a lv) 8) 63)
          (bitZ (le M (placeZ t a lv) 8) 8) (lv == 1) (bitZ (le M (placeZ t a lv) 8) 6 || aw) (ps ++ [placeZ t a lv])
      else .fault (1 + codeZ aw au af) := by
  rw [walkL, if_neg (by simp [h]), if_neg (by simp [h0]), if_neg (by simp [h9]), if_pos hg]
theorem hasF_bound (hf : 0 ≤ fr ∧ fr ≤ 1048576) (h : hasF fr hs t = true) : 0 ≤ t ∧ t < 1048576 := by
  unfold hasF at h
  simp at h
  omega
theorem frame_bound {y : Int} : 0 ≤ frameZ y ∧ frameZ y < 1048576 := by unfold frameZ; omega
theorem Walk_spec {i : Nat} {root : Int} {Q : WQ} (h : Own l A) (e1 : l[i]? = some (RamS r fr hs M)) (hl : hs.length ≤ 64) (hf : 0 ≤ fr ∧ fr ≤ 1048576) (ha : U64 a) (hk : WPost l i r fr hs M a aw Q (walkZ fr hs M root a aw au af)) :
    walk_Walk_A (some ⟨r, 0, none⟩) root a aw au af Q A := by
  unfold walk_Walk_A walk_Walk_G
  refine new_C h fun b2 _ h => ?_
  refine new_C h fun b4 _ h => ?_
  refine new_C h fun b6 _ h => ?_
  refine Canonical_spec ?_
  unfold walkZ at hk
  refine bsel_in (fun c => ?_) fun c => ?_
  · repeat (first | (first | (refine st_C (i := 0) h rfl rfl rfl fun _ h => ?_; try simp only [List.set_cons_zero, List.set_cons_succ] at h) | (refine st_C (i := 1) h rfl rfl rfl fun _ h => ?_; try simp only [List.set_cons_zero, List.set_cons_succ] at h) | (refine st_C (i := 2) h rfl rfl rfl fun _ h => ?_; try simp only [List.set_cons_zero, List.set_cons_succ] at h)) | (first | refine ld_I (i := 0) h rfl rfl ?_ | refine ld_B (i := 0) h rfl rfl ?_ | refine ld_P (i := 0) h rfl rfl ?_ | refine ld_S (i := 0) h rfl rfl ?_ | refine ld_M (i := 0) h rfl rfl ?_ | refine ld_I (i := 1) h rfl rfl ?_ | refine ld_B (i := 1) h rfl rfl ?_ | refine ld_P (i := 1) h rfl rfl ?_ | refine ld_S (i := 1) h rfl rfl ?_ | refine ld_M (i := 1) h rfl rfl ?_ | refine ld_I (i := 2) h rfl rfl ?_ | refine ld_B (i := 2) h rfl rfl ?_ | refine ld_P (i := 2) h rfl rfl ?_ | refine ld_S (i := 2) h rfl rfl ?_ | refine ld_M (i := 2) h rfl rfl ?_))
    rw [if_pos (by simpa using c)] at hk
    exact hk _ h.tail.tail.tail
  rw [if_neg (by simpa using c)] at hk
  refine Has_spec (i := i + 3) h e1 hl ?_
  refine bsel_in (fun c2 => ?_) fun c2 => ?_
  · repeat (first | (first | (refine st_C (i := 0) h rfl rfl rfl fun _ h => ?_; try simp only [List.set_cons_zero, List.set_cons_succ] at h) | (refine st_C (i := 1) h rfl rfl rfl fun _ h => ?_; try simp only [List.set_cons_zero, List.set_cons_succ] at h) | (refine st_C (i := 2) h rfl rfl rfl fun _ h => ?_; try simp only [List.set_cons_zero, List.set_cons_succ] at h)) | (first | refine ld_I (i := 0) h rfl rfl ?_ | refine ld_B (i := 0) h rfl rfl ?_ | refine ld_P (i := 0) h rfl rfl ?_ | refine ld_S (i := 0) h rfl rfl ?_ | refine ld_M (i := 0) h rfl rfl ?_ | refine ld_I (i := 1) h rfl rfl ?_ | refine ld_B (i := 1) h rfl rfl ?_ | refine ld_P (i := 1) h rfl rfl ?_ | refine ld_S (i := 1) h rfl rfl ?_ | refine ld_M (i := 1) h rfl rfl ?_ | refine ld_I (i := 2) h rfl rfl ?_ | refine ld_B (i := 2) h rfl rfl ?_ | refine ld_P (i := 2) h rfl rfl ?_ | refine ld_S (i := 2) h rfl rfl ?_ | refine ld_M (i := 2) h rfl rfl ?_))
    rw [if_pos (by simpa using c2)] at hk
    exact hk _ h.tail.tail.tail
  have c2 : hasF fr hs root = true := by simpa using c2
  rw [if_neg (by simp [c2])] at hk
  refine new_C h fun b54 _ h => ?_
  refine Split_spec ha h fun _ h => ?_
  refine new_C h fun b62 _ h => ?_
  first | (refine st_C (i := 0) h rfl rfl rfl fun _ h => ?_; try simp only [List.set_cons_zero, List.set_cons_succ] at h) | (refine st_C (i := 1) h rfl rfl rfl fun _ h => ?_; try simp only [List.set_cons_zero, List.set_cons_succ] at h) | (refine st_C (i := 2) h rfl rfl rfl fun _ h => ?_; try simp only [List.set_cons_zero, List.set_cons_succ] at h) | (refine st_C (i := 3) h rfl rfl rfl fun _ h => ?_; try simp only [List.set_cons_zero, List.set_cons_succ] at h) | (refine st_C (i := 4) h rfl rfl rfl fun _ h => ?_; try simp only [List.set_cons_zero, List.set_cons_succ] at h) | (refine st_C (i := 5) h rfl rfl rfl fun _ h => ?_; try simp only [List.set_cons_zero, List.set_cons_succ] at h) | (refine st_C (i := 6) h rfl rfl rfl fun _ h => ?_; try simp only [List.set_cons_zero, List.set_cons_succ] at h)
  first | (refine st_C (i := 0) h rfl rfl rfl fun _ h => ?_; try simp only [List.set_cons_zero, List.set_cons_succ] at h) | (refine st_C (i := 1) h rfl rfl rfl fun _ h => ?_; try simp only [List.set_cons_zero, List.set_cons_succ] at h) | (refine st_C (i := 2) h rfl rfl rfl fun _ h => ?_; try simp only [List.set_cons_zero, List.set_cons_succ] at h) | (refine st_C (i := 3) h rfl rfl rfl fun _ h => ?_; try simp only [List.set_cons_zero, List.set_cons_succ] at h) | (refine st_C (i := 4) h rfl rfl rfl fun _ h => ?_; try simp only [List.set_cons_zero, List.set_cons_succ] at h) | (refine st_C (i := 5) h rfl rfl rfl fun _ h => ?_; try simp only [List.set_cons_zero, List.set_cons_succ] at h) | (refine st_C (i := 6) h rfl rfl rfl fun _ h => ?_; try simp only [List.set_cons_zero, List.set_cons_succ] at h)
  first | (refine st_C (i := 0) h rfl rfl rfl fun _ h => ?_; try simp only [List.set_cons_zero, List.set_cons_succ] at h) | (refine st_C (i := 1) h rfl rfl rfl fun _ h => ?_; try simp only [List.set_cons_zero, List.set_cons_succ] at h) | (refine st_C (i := 2) h rfl rfl rfl fun _ h => ?_; try simp only [List.set_cons_zero, List.set_cons_succ] at h) | (refine st_C (i := 3) h rfl rfl rfl fun _ h => ?_; try simp only [List.set_cons_zero, List.set_cons_succ] at h) | (refine st_C (i := 4) h rfl rfl rfl fun _ h => ?_; try simp only [List.set_cons_zero, List.set_cons_succ] at h) | (refine st_C (i := 5) h rfl rfl rfl fun _ h => ?_; try simp only [List.set_cons_zero, List.set_cons_succ] at h) | (refine st_C (i := 6) h rfl rfl rfl fun _ h => ?_; try simp only [List.set_cons_zero, List.set_cons_succ] at h)
  first | (refine st_C (i := 0) h rfl rfl rfl fun _ h => ?_; try simp only [List.set_cons_zero, List.set_cons_succ] at h) | (refine st_C (i := 1) h rfl rfl rfl fun _ h => ?_; try simp only [List.set_cons_zero, List.set_cons_succ] at h) | (refine st_C (i := 2) h rfl rfl rfl fun _ h => ?_; try simp only [List.set_cons_zero, List.set_cons_succ] at h) | (refine st_C (i := 3) h rfl rfl rfl fun _ h => ?_; try simp only [List.set_cons_zero, List.set_cons_succ] at h) | (refine st_C (i := 4) h rfl rfl rfl fun _ h => ?_; try simp only [List.set_cons_zero, List.set_cons_succ] at h) | (refine st_C (i := 5) h rfl rfl rfl fun _ h => ?_; try simp only [List.set_cons_zero, List.set_cons_succ] at h) | (refine st_C (i := 6) h rfl rfl rfl fun _ h => ?_; try simp only [List.set_cons_zero, List.set_cons_succ] at h)
  generalize hW : walkL fr hs M a aw au af 4 root true true true [] = W at hk
  refine ⟨fun s h' => ∃ f w u x g lg d ps, W = .ok f w u x g lg d ps ∧ Own (SlAt s 1 (u64s ps) :: At b6 [.int .i64 0] :: At b4 [.int .u64 0, .int .i64 0] :: At b2 [.int .i64 f, .bool w, .bool u, .bool x, .bool g, .bool lg, .bool d] :: l) h' ∧ PlacesOK fr hs ps ∧ ps.length ≤ 4, ?_, ?_⟩
  · intro s h' ⟨f, w, u, x, g, lg, d, ps, g1, h, g3, g4⟩
    subst g1
    refine mark_spec (i := i + 4) (k := 0) h e1 rfl (by omega) hl hf g3 g4 fun _ h => ?_
    simp only [List.set_cons_succ] at h
    repeat (first | (first | (refine st_C (i := 0) h rfl rfl rfl fun _ h => ?_; try simp only [List.set_cons_zero, List.set_cons_succ] at h) | (refine st_C (i := 1) h rfl rfl rfl fun _ h => ?_; try simp only [List.set_cons_zero, List.set_cons_succ] at h) | (refine st_C (i := 2) h rfl rfl rfl fun _ h => ?_; try simp only [List.set_cons_zero, List.set_cons_succ] at h) | (refine st_C (i := 3) h rfl rfl rfl fun _ h => ?_; try simp only [List.set_cons_zero, List.set_cons_succ] at h)) | (first | refine ld_I (i := 0) h rfl rfl ?_ | refine ld_B (i := 0) h rfl rfl ?_ | refine ld_P (i := 0) h rfl rfl ?_ | refine ld_S (i := 0) h rfl rfl ?_ | refine ld_M (i := 0) h rfl rfl ?_ | refine ld_I (i := 1) h rfl rfl ?_ | refine ld_B (i := 1) h rfl rfl ?_ | refine ld_P (i := 1) h rfl rfl ?_ | refine ld_S (i := 1) h rfl rfl ?_ | refine ld_M (i := 1) h rfl rfl ?_ | refine ld_I (i := 2) h rfl rfl ?_ | refine ld_B (i := 2) h rfl rfl ?_ | refine ld_P (i := 2) h rfl rfl ?_ | refine ld_S (i := 2) h rfl rfl ?_ | refine ld_M (i := 2) h rfl rfl ?_ | refine ld_I (i := 3) h rfl rfl ?_ | refine ld_B (i := 3) h rfl rfl ?_ | refine ld_P (i := 3) h rfl rfl ?_ | refine ld_S (i := 3) h rfl rfl ?_ | refine ld_M (i := 3) h rfl rfl ?_))
    exact hk _ h.tail.tail.tail.tail
  refine ⟨fun s t lev m h' => ∃ (k : Nat) (w u x : Bool) (ps : List Int), lev = k ∧ (1 ≤ k ∧ k ≤ 4) ∧ m = k ∧ (0 ≤ t ∧ t < 1048576) ∧ walkL fr hs M a aw au af k t w u x ps = W ∧ PlacesOK fr hs ps ∧ ps.length + k = 4 ∧ (s.a = none → u64s ps = []) ∧ s.len = ps.length ∧
    Own (SlO s 1 (u64s ps) :: At b62 [.int .i64 (partZ a 39), .int .i64 (partZ a 30), .int .i64 (partZ a 21), .int .i64 (partZ a 12)] :: At b54 (wcell r a aw au af w u x) :: At b6 [.int .i64 0] :: At b4 [.int .u64 0, .int .i64 0] :: At b2 [.int .i64 0, .bool false, .bool false, .bool false, .bool false, .bool false, .bool false] :: l) h',
    ⟨4, 4, true, true, true, [], rfl, ⟨by omega, by omega⟩, rfl, hasF_bound hf c2, hW, (fun p hp => by simp at hp), rfl, fun _ => rfl, rfl, ?_⟩, ?_⟩
  · exact ⟨fun _ => none, _, fun _ => .inl rfl, (fun b o e => nomatch e), Sub.refl _, SlO.nil, h⟩
  intro s t lev m h' ⟨k, w, u, x, ps, g1, g2, g3, ht, g5, g6, g7, g8, g9, h⟩
  subst g1 g3
  refine bsel_in (fun c3 => ?_) fun c3 => ?_
  · have c3 : 1 ≤ m := by simp at c3; omega
    obtain ⟨lv, rfl⟩ : ∃ lv, m = lv + 1 := ⟨m - 1, by omega⟩
    have hix : IntKind.wrap .i64 (4 - ((lv + 1 : Nat) : Int)) = ((3 - lv : Nat) : Int) := by rw [w64 (by omega) (by omega)]; omega
    rw [hix]
    refine inB_in (by omega) (by omega) ?_
    have hcell : ([.int .i64 (partZ a 39), .int .i64 (partZ a 30), .int .i64 (partZ a 21), .int .i64 (partZ a 12)] : List Value)[0 + Int.toNat ((3 - lv : Nat) : Int) * 1]? = some (.int .i64 (partZ a (12 + 9 * lv))) := by
      obtain rfl | rfl | rfl | rfl : lv = 0 ∨ lv = 1 ∨ lv = 2 ∨ lv = 3 := by omega
      all_goals rfl
    rw [add_at]
    refine ld_I (i := 1) h rfl hcell ?_
    have hpb := place_bound (a := a) (lv := lv) ht
    refine entry_spec (i := i + 6) (j := 2) (lv := lv) h e1 rfl hl hf ht rfl (by omega) ?_ ?_ ?_ ?_
    · intro q
      rw [walkL_err q] at g5
      subst g5
      exact rec_end h.tail.tail.tail hk
    · intro q q0
      rw [walkL_f0 q q0] at g5
      subst g5
      exact rec_end h.tail.tail.tail hk
    · intro q q0 q9
      rw [walkL_f9 q q0 q9] at g5
      subst g5
      exact rec_end h.tail.tail.tail hk
    intro q q0 q9 A2 h
    simp only [List.set_cons_zero, List.set_cons_succ] at h
    have hplOK : PlacesOK fr hs (ps ++ [placeZ t a lv]) := by
      intro p hp
      rcases List.mem_append.1 hp with hp | hp
      · exact g6 p hp
      · simp at hp
        subst hp
        exact ⟨by unfold placeZ; rw [okA_word ⟨hpb.1, hpb.2.1⟩, q], hpb.2.2.1, by omega⟩
    have hUe := word_u64 (i := i + 6) h e1 (placeZ t a lv)
    refine new_C h fun b96 _ h => ?_
    have h := Own.imp (P' := SlAt ⟨some ⟨b96, 0, none⟩, 1, 1⟩ 1 [.int .u64 (placeZ t a lv)]) (fun B hB => ⟨rfl, Nat.le_refl _, fun _ => ⟨b96, [], [], rfl, hB⟩⟩) h
    have h := h.swap
    refine ap_head (i := 0) h rfl (fun q => by cases q) g8 rfl (fun v hv => by simp at hv; subst hv; rfl) ⟨by simp [g9]; omega, by simp [g9]; omega⟩ fun s' A3 hs1 hs2 h => ?_
    refine Unpack_spec hUe h fun _ h => ?_
    have hu : u64s ps ++ [.int .u64 (placeZ t a lv)] = u64s (ps ++ [placeZ t a lv]) := by simp [u64s]
    have hgo : ¬(lv = 0 ∨ (lv = 1 ∧ bitZ (le M (placeZ t a lv) 8) 7 = true)) → ∀ h9 : AH, Own (SlO s' 1 (u64s ps ++ [.int .u64 (placeZ t a lv)]) :: SlAt ⟨some ⟨b96, 0, none⟩, 1, 1⟩ 1 [.int .u64 (placeZ t a lv)] :: At b62 [.int .i64 (partZ a 39), .int .i64 (partZ a 30), .int .i64 (partZ a 21), .int .i64 (partZ a 12)] :: At b54 (wcell r a aw au af (w && bitZ (le M (placeZ t a lv) 8) 1) (u && bitZ (le M (placeZ t a lv) 8) 2) (x && !bitZ (le M (placeZ t a lv) 8) 63)) :: At b6 [.int .i64 0] :: At b4 [.int .u64 0, .int .i64 0] :: At b2 [.int .i64 0, .bool false, .bool false, .bool false, .bool false, .bool false, .bool false] :: l) h9 → ∃ (k : Nat) (w u x : Bool) (ps : List Int), IntKind.wrap .i64 (((lv + 1 : Nat) : Int) - 1) = k ∧ (1 ≤ k ∧ k ≤ 4) ∧ lv = k ∧ (0 ≤ frameZ (le M (placeZ t a lv) 8) ∧ frameZ (le M (placeZ t a lv) 8) < 1048576) ∧ walkL fr hs M a aw au af k (frameZ (le M (placeZ t a lv) 8)) w u x ps = W ∧ PlacesOK fr hs ps ∧ ps.length + k = 4 ∧ (s'.a = none → u64s ps = []) ∧ s'.len = ps.length ∧
        Own (SlO s' 1 (u64s ps) :: At b62 [.int .i64 (partZ a 39), .int .i64 (partZ a 30), .int .i64 (partZ a 21), .int .i64 (partZ a 12)] :: At b54 (wcell r a aw au af w u x) :: At b6 [.int .i64 0] :: At b4 [.int .u64 0, .int .i64 0] :: At b2 [.int .i64 0, .bool false, .bool false, .bool false, .bool false, .bool false, .bool false] :: l) h9 := by
      intro hg h9 h
      rw [walkL_go q q0 q9 hg] at g5
      refine ⟨lv, _, _, _, _, by rw [w64] <;> omega, ⟨by omega, by omega⟩, rfl, frame_bound, g5, hplOK, by simp; omega, by rw [← hu]; exact hs2, by simp [hs1, g9], ?_⟩
      rw [← hu]
      exact h.cons fun _ hh => hh.tail
    have hfinal : ∀ (f : Int) (w u x g lg d : Bool) (h' : AH), W = .ok f w u x g lg d (ps ++ [placeZ t a lv]) → ∀ z1 z2 z3, Own (SlO s' 1 (u64s ps ++ [.int .u64 (placeZ t a lv)]) :: z1 :: z2 :: z3 :: At b6 [.int .i64 0] :: At b4 [.int .u64 0, .int .i64 0] :: At b2 [.int .i64 f, .bool w, .bool u, .bool x, .bool g, .bool lg, .bool d] :: l) h' →
        ∃ f w u x g lg d ps, W = .ok f w u x g lg d ps ∧ Own (SlAt s' 1 (u64s ps) :: At b6 [.int .i64 0] :: At b4 [.int .u64 0, .int .i64 0] :: At b2 [.int .i64 f, .bool w, .bool u, .bool x, .bool g, .bool lg, .bool d] :: l) h' ∧ PlacesOK fr hs ps ∧ ps.length ≤ 4 := by
      intro f w u x g lg d h' hw z1 z2 z3 h
      refine ⟨f, w, u, x, g, lg, d, _, hw, ?_, hplOK, by simp; omega⟩
      rw [← hu]
      exact (h.imp fun B hB => hB.look).cons fun _ hh => hh.tail.tail.tail
    refine ⟨fun h' => (lv = 0 ∨ (lv = 1 ∧ bitZ (le M (placeZ t a lv) 8) 7 = true)) ∧ Own (SlO s' 1 (u64s ps ++ [.int .u64 (placeZ t a lv)]) :: SlAt ⟨some ⟨b96, 0, none⟩, 1, 1⟩ 1 [.int .u64 (placeZ t a lv)] :: At b62 [.int .i64 (partZ a 39), .int .i64 (partZ a 30), .int .i64 (partZ a 21), .int .i64 (partZ a 12)] :: At b54 (wcell r a aw au af (w && bitZ (le M (placeZ t a lv) 8) 1) (u && bitZ (le M (placeZ t a lv) 8) 2) (x && !bitZ (le M (placeZ t a lv) 8) 63)) :: At b6 [.int .i64 0] :: At b4 [.int .u64 0, .int .i64 0] :: At b2 [.int .i64 0, .bool false, .bool false, .bool false, .bool false, .bool false, .bool false] :: l) h', ?_, ?_⟩
    · intro h107 ⟨hend0, h⟩
      have hend := walkL_end (fr := fr) (hs := hs) (M := M) (a := a) (aw := aw) (au := au) (af := af) (w := w) (u := u) (x := x) (ps := ps) q q0 q9 hend0
      rw [g5] at hend
      rcases hend0 with rfl | ⟨rfl, c6⟩
      · generalize he : le M (placeZ t a 0) 8 = e at *
        generalize hw' : (w && bitZ e 1) = w' at *
        generalize hu' : (u && bitZ e 2) = u' at *
        generalize hx' : (x && !bitZ e 63) = x' at *
        refine ⟨fun h' => Own (SlO s' 1 (u64s ps ++ [.int .u64 (placeZ t a 0)]) :: SlAt ⟨some ⟨b96, 0, none⟩, 1, 1⟩ 1 [.int .u64 (placeZ t a 0)] :: At b62 [.int .i64 (partZ a 39), .int .i64 (partZ a 30), .int .i64 (partZ a 21), .int .i64 (partZ a 12)] :: At b54 (wcell r a aw au af w' u' x') :: At b6 [.int .i64 0] :: At b4 [.int .u64 0, .int .i64 0] :: At b2 [.int .i64 0, .bool false, .bool false, .bool false, .bool false, .bool false, .bool false] :: l) h' ∧ mayZ w' u' x' aw au af = true, ?_, ?_⟩
        · intro h134 ⟨h, hmay⟩
          rw [hmay, if_pos rfl] at hend
          have hfr : IntKind.wrap .i64 (frameZ e + partZ a 12) = frameZ e + partZ a 12 := by
            have := frame_bound (y := e)
            have : 0 ≤ partZ a 12 ∧ partZ a 12 < 512 := by unfold partZ; omega
            exact w64 (by omega) (by omega)
          repeat (first | (first | (refine st_C (i := 0) h rfl rfl rfl fun _ h => ?_; try simp only [List.set_cons_zero, List.set_cons_succ] at h) | (refine st_C (i := 1) h rfl rfl rfl fun _ h => ?_; try simp only [List.set_cons_zero, List.set_cons_succ] at h) | (refine st_C (i := 2) h rfl rfl rfl fun _ h => ?_; try simp only [List.set_cons_zero, List.set_cons_succ] at h) | (refine st_C (i := 3) h rfl rfl rfl fun _ h => ?_; try simp only [List.set_cons_zero, List.set_cons_succ] at h) | (refine st_C (i := 4) h rfl rfl rfl fun _ h => ?_; try simp only [List.set_cons_zero, List.set_cons_succ] at h) | (refine st_C (i := 5) h rfl rfl rfl fun _ h => ?_; try simp only [List.set_cons_zero, List.set_cons_succ] at h) | (refine st_C (i := 6) h rfl rfl rfl fun _ h => ?_; try simp only [List.set_cons_zero, List.set_cons_succ] at h)) | (first | refine ld_I (i := 0) h rfl rfl ?_ | refine ld_B (i := 0) h rfl rfl ?_ | refine ld_P (i := 0) h rfl rfl ?_ | refine ld_S (i := 0) h rfl rfl ?_ | refine ld_M (i := 0) h rfl rfl ?_ | refine ld_I (i := 1) h rfl rfl ?_ | refine ld_B (i := 1) h rfl rfl ?_ | refine ld_P (i := 1) h rfl rfl ?_ | refine ld_S (i := 1) h rfl rfl ?_ | refine ld_M (i := 1) h rfl rfl ?_ | refine ld_I (i := 2) h rfl rfl ?_ | refine ld_B (i := 2) h rfl rfl ?_ | refine ld_P (i := 2) h rfl rfl ?_ | refine ld_S (i := 2) h rfl rfl ?_ | refine ld_M (i := 2) h rfl rfl ?_ | refine ld_I (i := 3) h rfl rfl ?_ | refine ld_B (i := 3) h rfl rfl ?_ | refine ld_P (i := 3) h rfl rfl ?_ | refine ld_S (i := 3) h rfl rfl ?_ | refine ld_M (i := 3) h rfl rfl ?_ | refine ld_I (i := 4) h rfl rfl ?_ | refine ld_B (i := 4) h rfl rfl ?_ | refine ld_P (i := 4) h rfl rfl ?_ | refine ld_S (i := 4) h rfl rfl ?_ | refine ld_M (i := 4) h rfl rfl ?_ | refine ld_I (i := 5) h rfl rfl ?_ | refine ld_B (i := 5) h rfl rfl ?_ | refine ld_P (i := 5) h rfl rfl ?_ | refine ld_S (i := 5) h rfl rfl ?_ | refine ld_M (i := 5) h rfl rfl ?_ | refine ld_I (i := 6) h rfl rfl ?_ | refine ld_B (i := 6) h rfl rfl ?_ | refine ld_P (i := 6) h rfl rfl ?_ | refine ld_S (i := 6) h rfl rfl ?_ | refine ld_M (i := 6) h rfl rfl ?_))
          refine bsel_in (fun cd => ?_) fun cd => ?_
          · repeat (first | (first | (refine st_C (i := 0) h rfl rfl rfl fun _ h => ?_; try simp only [List.set_cons_zero, List.set_cons_succ] at h) | (refine st_C (i := 1) h rfl rfl rfl fun _ h => ?_; try simp only [List.set_cons_zero, List.set_cons_succ] at h) | (refine st_C (i := 2) h rfl rfl rfl fun _ h => ?_; try simp only [List.set_cons_zero, List.set_cons_succ] at h) | (refine st_C (i := 3) h rfl rfl rfl fun _ h => ?_; try simp only [List.set_cons_zero, List.set_cons_succ] at h) | (refine st_C (i := 4) h rfl rfl rfl fun _ h => ?_; try simp only [List.set_cons_zero, List.set_cons_succ] at h) | (refine st_C (i := 5) h rfl rfl rfl fun _ h => ?_; try simp only [List.set_cons_zero, List.set_cons_succ] at h) | (refine st_C (i := 6) h rfl rfl rfl fun _ h => ?_; try simp only [List.set_cons_zero, List.set_cons_succ] at h)) | (first | refine ld_I (i := 0) h rfl rfl ?_ | refine ld_B (i := 0) h rfl rfl ?_ | refine ld_P (i := 0) h rfl rfl ?_ | refine ld_S (i := 0) h rfl rfl ?_ | refine ld_M (i := 0) h rfl rfl ?_ | refine ld_I (i := 1) h rfl rfl ?_ | refine ld_B (i := 1) h rfl rfl ?_ | refine ld_P (i := 1) h rfl rfl ?_ | refine ld_S (i := 1) h rfl rfl ?_ | refine ld_M (i := 1) h rfl rfl ?_ | refine ld_I (i := 2) h rfl rfl ?_ | refine ld_B (i := 2) h rfl rfl ?_ | refine ld_P (i := 2) h rfl rfl ?_ | refine ld_S (i := 2) h rfl rfl ?_ | refine ld_M (i := 2) h rfl rfl ?_ | refine ld_I (i := 3) h rfl rfl ?_ | refine ld_B (i := 3) h rfl rfl ?_ | refine ld_P (i := 3) h rfl rfl ?_ | refine ld_S (i := 3) h rfl rfl ?_ | refine ld_M (i := 3) h rfl rfl ?_ | refine ld_I (i := 4) h rfl rfl ?_ | refine ld_B (i := 4) h rfl rfl ?_ | refine ld_P (i := 4) h rfl rfl ?_ | refine ld_S (i := 4) h rfl rfl ?_ | refine ld_M (i := 4) h rfl rfl ?_ | refine ld_I (i := 5) h rfl rfl ?_ | refine ld_B (i := 5) h rfl rfl ?_ | refine ld_P (i := 5) h rfl rfl ?_ | refine ld_S (i := 5) h rfl rfl ?_ | refine ld_M (i := 5) h rfl rfl ?_ | refine ld_I (i := 6) h rfl rfl ?_ | refine ld_B (i := 6) h rfl rfl ?_ | refine ld_P (i := 6) h rfl rfl ?_ | refine ld_S (i := 6) h rfl rfl ?_ | refine ld_M (i := 6) h rfl rfl ?_))
            try rw [hfr] at h
            exact hfinal _ _ _ _ _ _ _ _ (hend.trans (by rw [cd]; rfl)) _ _ _ h
          · repeat (first | (first | (refine st_C (i := 0) h rfl rfl rfl fun _ h => ?_; try simp only [List.set_cons_zero, List.set_cons_succ] at h) | (refine st_C (i := 1) h rfl rfl rfl fun _ h => ?_; try simp only [List.set_cons_zero, List.set_cons_succ] at h) | (refine st_C (i := 2) h rfl rfl rfl fun _ h => ?_; try simp only [List.set_cons_zero, List.set_cons_succ] at h) | (refine st_C (i := 3) h rfl rfl rfl fun _ h => ?_; try simp only [List.set_cons_zero, List.set_cons_succ] at h) | (refine st_C (i := 4) h rfl rfl rfl fun _ h => ?_; try simp only [List.set_cons_zero, List.set_cons_succ] at h) | (refine st_C (i := 5) h rfl rfl rfl fun _ h => ?_; try simp only [List.set_cons_zero, List.set_cons_succ] at h) | (refine st_C (i := 6) h rfl rfl rfl fun _ h => ?_; try simp only [List.set_cons_zero, List.set_cons_succ] at h)) | (first | refine ld_I (i := 0) h rfl rfl ?_ | refine ld_B (i := 0) h rfl rfl ?_ | refine ld_P (i := 0) h rfl rfl ?_ | refine ld_S (i := 0) h rfl rfl ?_ | refine ld_M (i := 0) h rfl rfl ?_ | refine ld_I (i := 1) h rfl rfl ?_ | refine ld_B (i := 1) h rfl rfl ?_ | refine ld_P (i := 1) h rfl rfl ?_ | refine ld_S (i := 1) h rfl rfl ?_ | refine ld_M (i := 1) h rfl rfl ?_ | refine ld_I (i := 2) h rfl rfl ?_ | refine ld_B (i := 2) h rfl rfl ?_ | refine ld_P (i := 2) h rfl rfl ?_ | refine ld_S (i := 2) h rfl rfl ?_ | refine ld_M (i := 2) h rfl rfl ?_ | refine ld_I (i := 3) h rfl rfl ?_ | refine ld_B (i := 3) h rfl rfl ?_ | refine ld_P (i := 3) h rfl rfl ?_ | refine ld_S (i := 3) h rfl rfl ?_ | refine ld_M (i := 3) h rfl rfl ?_ | refine ld_I (i := 4) h rfl rfl ?_ | refine ld_B (i := 4) h rfl rfl ?_ | refine ld_P (i := 4) h rfl rfl ?_ | refine ld_S (i := 4) h rfl rfl ?_ | refine ld_M (i := 4) h rfl rfl ?_ | refine ld_I (i := 5) h rfl rfl ?_ | refine ld_B (i := 5) h rfl rfl ?_ | refine ld_P (i := 5) h rfl rfl ?_ | refine ld_S (i := 5) h rfl rfl ?_ | refine ld_M (i := 5) h rfl rfl ?_ | refine ld_I (i := 6) h rfl rfl ?_ | refine ld_B (i := 6) h rfl rfl ?_ | refine ld_P (i := 6) h rfl rfl ?_ | refine ld_S (i := 6) h rfl rfl ?_ | refine ld_M (i := 6) h rfl rfl ?_))
            try rw [hfr] at h
            exact hfinal _ _ _ _ _ _ _ _ (hend.trans (by rw [cd]; rfl)) _ _ _ h
        · repeat (first | (first | (refine st_C (i := 0) h rfl rfl rfl fun _ h => ?_; try simp only [List.set_cons_zero, List.set_cons_succ] at h) | (refine st_C (i := 1) h rfl rfl rfl fun _ h => ?_; try simp only [List.set_cons_zero, List.set_cons_succ] at h) | (refine st_C (i := 2) h rfl rfl rfl fun _ h => ?_; try simp only [List.set_cons_zero, List.set_cons_succ] at h) | (refine st_C (i := 3) h rfl rfl rfl fun _ h => ?_; try simp only [List.set_cons_zero, List.set_cons_succ] at h) | (refine st_C (i := 4) h rfl rfl rfl fun _ h => ?_; try simp only [List.set_cons_zero, List.set_cons_succ] at h) | (refine st_C (i := 5) h rfl rfl rfl fun _ h => ?_; try simp only [List.set_cons_zero, List.set_cons_succ] at h) | (refine st_C (i := 6) h rfl rfl rfl fun _ h => ?_; try simp only [List.set_cons_zero, List.set_cons_succ] at h)) | (first | refine ld_I (i := 0) h rfl rfl ?_ | refine ld_B (i := 0) h rfl rfl ?_ | refine ld_P (i := 0) h rfl rfl ?_ | refine ld_S (i := 0) h rfl rfl ?_ | refine ld_M (i := 0) h rfl rfl ?_ | refine ld_I (i := 1) h rfl rfl ?_ | refine ld_B (i := 1) h rfl rfl ?_ | refine ld_P (i := 1) h rfl rfl ?_ | refine ld_S (i := 1) h rfl rfl ?_ | refine ld_M (i := 1) h rfl rfl ?_ | refine ld_I (i := 2) h rfl rfl ?_ | refine ld_B (i := 2) h rfl rfl ?_ | refine ld_P (i := 2) h rfl rfl ?_ | refine ld_S (i := 2) h rfl rfl ?_ | refine ld_M (i := 2) h rfl rfl ?_ | refine ld_I (i := 3) h rfl rfl ?_ | refine ld_B (i := 3) h rfl rfl ?_ | refine ld_P (i := 3) h rfl rfl ?_ | refine ld_S (i := 3) h rfl rfl ?_ | refine ld_M (i := 3) h rfl rfl ?_ | refine ld_I (i := 4) h rfl rfl ?_ | refine ld_B (i := 4) h rfl rfl ?_ | refine ld_P (i := 4) h rfl rfl ?_ | refine ld_S (i := 4) h rfl rfl ?_ | refine ld_M (i := 4) h rfl rfl ?_ | refine ld_I (i := 5) h rfl rfl ?_ | refine ld_B (i := 5) h rfl rfl ?_ | refine ld_P (i := 5) h rfl rfl ?_ | refine ld_S (i := 5) h rfl rfl ?_ | refine ld_M (i := 5) h rfl rfl ?_ | refine ld_I (i := 6) h rfl rfl ?_ | refine ld_B (i := 6) h rfl rfl ?_ | refine ld_P (i := 6) h rfl rfl ?_ | refine ld_S (i := 6) h rfl rfl ?_ | refine ld_M (i := 6) h rfl rfl ?_))
          refine May_spec ?_
          refine bsel_in (fun c => ?_) fun c => ⟨h, by simpa using c⟩
          rw [if_neg (by simpa using c)] at hend
          refine fault_spec (j := 3) (.inr (.inl rfl)) h rfl ?_
          subst hend
          exact rec_end h.tail.tail.tail.tail hk
      · generalize he : le M (placeZ t a 1) 8 = e at *
        generalize hw' : (w && bitZ e 1) = w' at *
        generalize hu' : (u && bitZ e 2) = u' at *
        generalize hx' : (x && !bitZ e 63) = x' at *
        refine ⟨fun h' => Own (SlO s' 1 (u64s ps ++ [.int .u64 (placeZ t a 1)]) :: SlAt ⟨some ⟨b96, 0, none⟩, 1, 1⟩ 1 [.int .u64 (placeZ t a 1)] :: At b62 [.int .i64 (partZ a 39), .int .i64 (partZ a 30), .int .i64 (partZ a 21), .int .i64 (partZ a 12)] :: At b54 (wcell r a aw au af w' u' x') :: At b6 [.int .i64 0] :: At b4 [.int .u64 0, .int .i64 0] :: At b2 [.int .i64 0, .bool false, .bool false, .bool false, .bool false, .bool false, .bool false] :: l) h' ∧ mayZ w' u' x' aw au af = true, ?_, ?_⟩
        · intro h134 ⟨h, hmay⟩
          rw [hmay, if_pos rfl] at hend
          have hfr : IntKind.wrap .i64 (frameZ e + partZ a 12) = frameZ e + partZ a 12 := by
            have := frame_bound (y := e)
            have : 0 ≤ partZ a 12 ∧ partZ a 12 < 512 := by unfold partZ; omega
            exact w64 (by omega) (by omega)
          repeat (first | (first | (refine st_C (i := 0) h rfl rfl rfl fun _ h => ?_; try simp only [List.set_cons_zero, List.set_cons_succ] at h) | (refine st_C (i := 1) h rfl rfl rfl fun _ h => ?_; try simp only [List.set_cons_zero, List.set_cons_succ] at h) | (refine st_C (i := 2) h rfl rfl rfl fun _ h => ?_; try simp only [List.set_cons_zero, List.set_cons_succ] at h) | (refine st_C (i := 3) h rfl rfl rfl fun _ h => ?_; try simp only [List.set_cons_zero, List.set_cons_succ] at h) | (refine st_C (i := 4) h rfl rfl rfl fun _ h => ?_; try simp only [List.set_cons_zero, List.set_cons_succ] at h) | (refine st_C (i := 5) h rfl rfl rfl fun _ h => ?_; try simp only [List.set_cons_zero, List.set_cons_succ] at h) | (refine st_C (i := 6) h rfl rfl rfl fun _ h => ?_; try simp only [List.set_cons_zero, List.set_cons_succ] at h)) | (first | refine ld_I (i := 0) h rfl rfl ?_ | refine ld_B (i := 0) h rfl rfl ?_ | refine ld_P (i := 0) h rfl rfl ?_ | refine ld_S (i := 0) h rfl rfl ?_ | refine ld_M (i := 0) h rfl rfl ?_ | refine ld_I (i := 1) h rfl rfl ?_ | refine ld_B (i := 1) h rfl rfl ?_ | refine ld_P (i := 1) h rfl rfl ?_ | refine ld_S (i := 1) h rfl rfl ?_ | refine ld_M (i := 1) h rfl rfl ?_ | refine ld_I (i := 2) h rfl rfl ?_ | refine ld_B (i := 2) h rfl rfl ?_ | refine ld_P (i := 2) h rfl rfl ?_ | refine ld_S (i := 2) h rfl rfl ?_ | refine ld_M (i := 2) h rfl rfl ?_ | refine ld_I (i := 3) h rfl rfl ?_ | refine ld_B (i := 3) h rfl rfl ?_ | refine ld_P (i := 3) h rfl rfl ?_ | refine ld_S (i := 3) h rfl rfl ?_ | refine ld_M (i := 3) h rfl rfl ?_ | refine ld_I (i := 4) h rfl rfl ?_ | refine ld_B (i := 4) h rfl rfl ?_ | refine ld_P (i := 4) h rfl rfl ?_ | refine ld_S (i := 4) h rfl rfl ?_ | refine ld_M (i := 4) h rfl rfl ?_ | refine ld_I (i := 5) h rfl rfl ?_ | refine ld_B (i := 5) h rfl rfl ?_ | refine ld_P (i := 5) h rfl rfl ?_ | refine ld_S (i := 5) h rfl rfl ?_ | refine ld_M (i := 5) h rfl rfl ?_ | refine ld_I (i := 6) h rfl rfl ?_ | refine ld_B (i := 6) h rfl rfl ?_ | refine ld_P (i := 6) h rfl rfl ?_ | refine ld_S (i := 6) h rfl rfl ?_ | refine ld_M (i := 6) h rfl rfl ?_))
          refine bsel_in (fun cd => ?_) fun cd => ?_
          · repeat (first | (first | (refine st_C (i := 0) h rfl rfl rfl fun _ h => ?_; try simp only [List.set_cons_zero, List.set_cons_succ] at h) | (refine st_C (i := 1) h rfl rfl rfl fun _ h => ?_; try simp only [List.set_cons_zero, List.set_cons_succ] at h) | (refine st_C (i := 2) h rfl rfl rfl fun _ h => ?_; try simp only [List.set_cons_zero, List.set_cons_succ] at h) | (refine st_C (i := 3) h rfl rfl rfl fun _ h => ?_; try simp only [List.set_cons_zero, List.set_cons_succ] at h) | (refine st_C (i := 4) h rfl rfl rfl fun _ h => ?_; try simp only [List.set_cons_zero, List.set_cons_succ] at h) | (refine st_C (i := 5) h rfl rfl rfl fun _ h => ?_; try simp only [List.set_cons_zero, List.set_cons_succ] at h) | (refine st_C (i := 6) h rfl rfl rfl fun _ h => ?_; try simp only [List.set_cons_zero, List.set_cons_succ] at h)) | (first | refine ld_I (i := 0) h rfl rfl ?_ | refine ld_B (i := 0) h rfl rfl ?_ | refine ld_P (i := 0) h rfl rfl ?_ | refine ld_S (i := 0) h rfl rfl ?_ | refine ld_M (i := 0) h rfl rfl ?_ | refine ld_I (i := 1) h rfl rfl ?_ | refine ld_B (i := 1) h rfl rfl ?_ | refine ld_P (i := 1) h rfl rfl ?_ | refine ld_S (i := 1) h rfl rfl ?_ | refine ld_M (i := 1) h rfl rfl ?_ | refine ld_I (i := 2) h rfl rfl ?_ | refine ld_B (i := 2) h rfl rfl ?_ | refine ld_P (i := 2) h rfl rfl ?_ | refine ld_S (i := 2) h rfl rfl ?_ | refine ld_M (i := 2) h rfl rfl ?_ | refine ld_I (i := 3) h rfl rfl ?_ | refine ld_B (i := 3) h rfl rfl ?_ | refine ld_P (i := 3) h rfl rfl ?_ | refine ld_S (i := 3) h rfl rfl ?_ | refine ld_M (i := 3) h rfl rfl ?_ | refine ld_I (i := 4) h rfl rfl ?_ | refine ld_B (i := 4) h rfl rfl ?_ | refine ld_P (i := 4) h rfl rfl ?_ | refine ld_S (i := 4) h rfl rfl ?_ | refine ld_M (i := 4) h rfl rfl ?_ | refine ld_I (i := 5) h rfl rfl ?_ | refine ld_B (i := 5) h rfl rfl ?_ | refine ld_P (i := 5) h rfl rfl ?_ | refine ld_S (i := 5) h rfl rfl ?_ | refine ld_M (i := 5) h rfl rfl ?_ | refine ld_I (i := 6) h rfl rfl ?_ | refine ld_B (i := 6) h rfl rfl ?_ | refine ld_P (i := 6) h rfl rfl ?_ | refine ld_S (i := 6) h rfl rfl ?_ | refine ld_M (i := 6) h rfl rfl ?_))
            try rw [hfr] at h
            exact hfinal _ _ _ _ _ _ _ _ (hend.trans (by rw [cd]; rfl)) _ _ _ h
          · repeat (first | (first | (refine st_C (i := 0) h rfl rfl rfl fun _ h => ?_; try simp only [List.set_cons_zero, List.set_cons_succ] at h) | (refine st_C (i := 1) h rfl rfl rfl fun _ h => ?_; try simp only [List.set_cons_zero, List.set_cons_succ] at h) | (refine st_C (i := 2) h rfl rfl rfl fun _ h => ?_; try simp only [List.set_cons_zero, List.set_cons_succ] at h) | (refine st_C (i := 3) h rfl rfl rfl fun _ h => ?_; try simp only [List.set_cons_zero, List.set_cons_succ] at h) | (refine st_C (i := 4) h rfl rfl rfl fun _ h => ?_; try simp only [List.set_cons_zero, List.set_cons_succ] at h) | (refine st_C (i := 5) h rfl rfl rfl fun _ h => ?_; try simp only [List.set_cons_zero, List.set_cons_succ] at h) | (refine st_C (i := 6) h rfl rfl rfl fun _ h => ?_; try simp only [List.set_cons_zero, List.set_cons_succ] at h)) | (first | refine ld_I (i := 0) h rfl rfl ?_ | refine ld_B (i := 0) h rfl rfl ?_ | refine ld_P (i := 0) h rfl rfl ?_ | refine ld_S (i := 0) h rfl rfl ?_ | refine ld_M (i := 0) h rfl rfl ?_ | refine ld_I (i := 1) h rfl rfl ?_ | refine ld_B (i := 1) h rfl rfl ?_ | refine ld_P (i := 1) h rfl rfl ?_ | refine ld_S (i := 1) h rfl rfl ?_ | refine ld_M (i := 1) h rfl rfl ?_ | refine ld_I (i := 2) h rfl rfl ?_ | refine ld_B (i := 2) h rfl rfl ?_ | refine ld_P (i := 2) h rfl rfl ?_ | refine ld_S (i := 2) h rfl rfl ?_ | refine ld_M (i := 2) h rfl rfl ?_ | refine ld_I (i := 3) h rfl rfl ?_ | refine ld_B (i := 3) h rfl rfl ?_ | refine ld_P (i := 3) h rfl rfl ?_ | refine ld_S (i := 3) h rfl rfl ?_ | refine ld_M (i := 3) h rfl rfl ?_ | refine ld_I (i := 4) h rfl rfl ?_ | refine ld_B (i := 4) h rfl rfl ?_ | refine ld_P (i := 4) h rfl rfl ?_ | refine ld_S (i := 4) h rfl rfl ?_ | refine ld_M (i := 4) h rfl rfl ?_ | refine ld_I (i := 5) h rfl rfl ?_ | refine ld_B (i := 5) h rfl rfl ?_ | refine ld_P (i := 5) h rfl rfl ?_ | refine ld_S (i := 5) h rfl rfl ?_ | refine ld_M (i := 5) h rfl rfl ?_ | refine ld_I (i := 6) h rfl rfl ?_ | refine ld_B (i := 6) h rfl rfl ?_ | refine ld_P (i := 6) h rfl rfl ?_ | refine ld_S (i := 6) h rfl rfl ?_ | refine ld_M (i := 6) h rfl rfl ?_))
            try rw [hfr] at h
            exact hfinal _ _ _ _ _ _ _ _ (hend.trans (by rw [cd]; rfl)) _ _ _ h
        · repeat (first | (first | (refine st_C (i := 0) h rfl rfl rfl fun _ h => ?_; try simp only [List.set_cons_zero, List.set_cons_succ] at h) | (refine st_C (i := 1) h rfl rfl rfl fun _ h => ?_; try simp only [List.set_cons_zero, List.set_cons_succ] at h) | (refine st_C (i := 2) h rfl rfl rfl fun _ h => ?_; try simp only [List.set_cons_zero, List.set_cons_succ] at h) | (refine st_C (i := 3) h rfl rfl rfl fun _ h => ?_; try simp only [List.set_cons_zero, List.set_cons_succ] at h) | (refine st_C (i := 4) h rfl rfl rfl fun _ h => ?_; try simp only [List.set_cons_zero, List.set_cons_succ] at h) | (refine st_C (i := 5) h rfl rfl rfl fun _ h => ?_; try simp only [List.set_cons_zero, List.set_cons_succ] at h) | (refine st_C (i := 6) h rfl rfl rfl fun _ h => ?_; try simp only [List.set_cons_zero, List.set_cons_succ] at h)) | (first | refine ld_I (i := 0) h rfl rfl ?_ | refine ld_B (i := 0) h rfl rfl ?_ | refine ld_P (i := 0) h rfl rfl ?_ | refine ld_S (i := 0) h rfl rfl ?_ | refine ld_M (i := 0) h rfl rfl ?_ | refine ld_I (i := 1) h rfl rfl ?_ | refine ld_B (i := 1) h rfl rfl ?_ | refine ld_P (i := 1) h rfl rfl ?_ | refine ld_S (i := 1) h rfl rfl ?_ | refine ld_M (i := 1) h rfl rfl ?_ | refine ld_I (i := 2) h rfl rfl ?_ | refine ld_B (i := 2) h rfl rfl ?_ | refine ld_P (i := 2) h rfl rfl ?_ | refine ld_S (i := 2) h rfl rfl ?_ | refine ld_M (i := 2) h rfl rfl ?_ | refine ld_I (i := 3) h rfl rfl ?_ | refine ld_B (i := 3) h rfl rfl ?_ | refine ld_P (i := 3) h rfl rfl ?_ | refine ld_S (i := 3) h rfl rfl ?_ | refine ld_M (i := 3) h rfl rfl ?_ | refine ld_I (i := 4) h rfl rfl ?_ | refine ld_B (i := 4) h rfl rfl ?_ | refine ld_P (i := 4) h rfl rfl ?_ | refine ld_S (i := 4) h rfl rfl ?_ | refine ld_M (i := 4) h rfl rfl ?_ | refine ld_I (i := 5) h rfl rfl ?_ | refine ld_B (i := 5) h rfl rfl ?_ | refine ld_P (i := 5) h rfl rfl ?_ | refine ld_S (i := 5) h rfl rfl ?_ | refine ld_M (i := 5) h rfl rfl ?_ | refine ld_I (i := 6) h rfl rfl ?_ | refine ld_B (i := 6) h rfl rfl ?_ | refine ld_P (i := 6) h rfl rfl ?_ | refine ld_S (i := 6) h rfl rfl ?_ | refine ld_M (i := 6) h rfl rfl ?_))
          refine May_spec ?_
          refine bsel_in (fun c => ?_) fun c => ⟨h, by simpa using c⟩
          rw [if_neg (by simpa using c)] at hend
          refine fault_spec (j := 3) (.inr (.inl rfl)) h rfl ?_
          subst hend
          exact rec_end h.tail.tail.tail.tail hk
    refine bsel_in (fun c4 => ?_) fun c4 => ?_
    · have hlv : lv ≠ 0 := by simp at c4; omega
      refine bsel_in (fun c5 => ?_) fun c5 => ?_
      · have hlv1 : lv = 1 := by simp at c5; omega
        subst hlv1
        refine bsel_in (fun c6 => ?_) fun c6 => ?_
        · refine ⟨1, by omega, ?_⟩
          exact hgo (by simp at c6; simp [c6]) _ h
        · have c6 : bitZ (le M (placeZ t a 1) 8) 7 = true := by simpa using c6
          exact ⟨.inr ⟨rfl, c6⟩, h⟩
      · have hlv2 : lv ≠ 1 := by intro g; subst g; simp at c5
        exact ⟨lv, by omega, hgo (by omega) _ h⟩
    · have hlv : lv = 0 := by simp at c4; omega
      exact ⟨.inl hlv, h⟩
  · simp at c3; omega
end Go.Dn
