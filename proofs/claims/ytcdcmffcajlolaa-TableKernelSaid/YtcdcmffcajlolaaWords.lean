/- A memory by its words: entries of tables. -/
import Derived.Test.YtcdcmffcajlolaaMaps
import Derived.Test.YtcdcmffcajlolaaEntry
import Derived.Test.YtcdcmffcajlolaaRamNew
namespace Go.Dn

variable {A : AH} {l R : List SP} {r : Nat} {fr : Int} {hs : List (Int × Int)} {M : Int → Int} {W : Int → Int → Int}
def wordAt (M : Int → Int) (t i : Int) : Int := le M (t * 4096 + 8 * i) 8
structure RamOK (fr : Int) (hs : List (Int × Int)) : Prop where
  holes : hs.length ≤ 64
  lo : 0 ≤ fr
  hi : fr ≤ 1048576
/-- A memory: its words, by frame and place. -/
def RamW (r : Nat) (fr : Int) (hs : List (Int × Int)) (W : Int → Int → Int) : SP := fun B => ∃ M, (RamOK fr hs ∧ ∀ t i, 0 ≤ t → 0 ≤ i → i < 512 → W t i = wordAt M t i) ∧ RamS r fr hs M B
theorem RamW.openH (h : Own (RamW r fr hs W :: R) A) : ∃ M, (RamOK fr hs ∧ ∀ t i, 0 ≤ t → 0 ≤ i → i < 512 → W t i = wordAt M t i) ∧ Own (RamS r fr hs M :: R) A := by
  obtain ⟨M, h⟩ := Own.ex h
  obtain ⟨h1, h⟩ := Own.pure h
  exact ⟨M, h1, h⟩
theorem RamW.closeH (h1 : RamOK fr hs) (h2 : ∀ t i, 0 ≤ t → 0 ≤ i → i < 512 → W t i = wordAt M t i) (h : Own (RamS r fr hs M :: R) A) : Own (RamW r fr hs W :: R) A := h.imp fun _ hB => ⟨M, ⟨h1, h2⟩, hB⟩
theorem has_range {t : Int} (h : hasF fr hs t = true) (_hf : fr ≤ 1048576) : 0 ≤ t ∧ t < fr := by
  unfold hasF at h
  simp at h
  omega
def setW (W : Int → Int → Int) (t i x : Int) : Int → Int → Int := fun t' i' => if t' = t ∧ i' = i then x else W t' i'
def zeroW (W : Int → Int → Int) (t : Int) : Int → Int → Int := fun t' i' => if t' = t then 0 else W t' i'
theorem word_st {t i x t' i' : Int} (hi : 0 ≤ i ∧ i < 512) (hi' : 0 ≤ i' ∧ i' < 512) (hx : U64 x) : wordAt (stM M (t * 4096 + 8 * i) 8 x) t' i' = if t' = t ∧ i' = i then x else wordAt M t' i' := by
  unfold wordAt
  split
  · rename_i g
    rw [g.1, g.2]
    exact le_same M _ x 8 hx.1 hx.2
  · rename_i g
    refine le_apart M _ _ x 8 8 ?_
    by_cases e : t' = t
    · have : i' ≠ i := fun q => g ⟨e, q⟩
      subst e
      omega
    · omega
theorem word_u (h : Own (RamW r fr hs W :: R) A) {t i : Int} (ht : 0 ≤ t) (hi : 0 ≤ i ∧ i < 512) : U64 (W t i) := by
  obtain ⟨M, ⟨h1, h2⟩, hh⟩ := RamW.openH h
  rw [h2 t i ht hi.1 hi.2]
  exact word_u64 (i := 0) hh rfl _
theorem Has_head {f : Int} {Q : Bool → AH → Prop} (h : Own (RamW r fr hs W :: R) A) (hk : Q (hasF fr hs f) A) : ram_RAM_Has_A (some ⟨r, 0, none⟩) f Q A := by
  obtain ⟨M, ⟨h1, h2⟩, hh⟩ := RamW.openH h
  exact Has_spec (i := 0) hh rfl h1.holes hk
theorem Frames_head {Q : Int → AH → Prop} (h : Own (RamW r fr hs W :: R) A) (hk : Q fr A) : ram_RAM_Frames_A (some ⟨r, 0, none⟩) Q A := by
  obtain ⟨M, ⟨h1, h2⟩, hh⟩ := RamW.openH h
  obtain ⟨s, mb, pm, ok, ho⟩ := RamS.open (i := 0) hh rfl
  exact ld_I (i := 0) ho rfl rfl hk
theorem get_head {t i bx : Int} {pb pt : Option Addr} {Q : Bool → Bool → Bool → Bool → Bool → Bool → Bool → Bool → Int → AH → Prop} (h : Own (RamW r fr hs W :: R) A) (ht : hasF fr hs t = true) (hi : 0 ≤ i ∧ i < 512)
    (hk : ∀ A', Own (RamW r fr hs W :: R) A' → Q (bitZ (W t i) 0) (bitZ (W t i) 1) (bitZ (W t i) 2) (bitZ (W t i) 5) (bitZ (W t i) 6) (bitZ (W t i) 7) (bitZ (W t i) 8) (bitZ (W t i) 63) (frameZ (W t i)) A') :
    table_Purse_get_A (some ⟨r, 0, none⟩) pb pt bx t i Q A := by
  have hU := word_u h (t := t) (i := i) (has_range ht (RamW.openH h).choose_spec.1.1.hi).1 hi
  obtain ⟨M, ⟨h1, h2⟩, hh⟩ := RamW.openH h
  have hr := has_range ht h1.hi
  have hfr := h1.hi
  unfold table_Purse_get_A table_Purse_get_G table_place_A
  rw [place_wrap ⟨hr.1, by omega⟩ hi]
  refine Load_spec (n := 8) (i := 0) hh rfl h1.holes ⟨h1.lo, h1.hi⟩ (by omega) ⟨by omega, by omega⟩ ?_
  have hok : okA fr hs (t * 4096 + 8 * i) ((8 : Nat) : Int) = true := (okA_word hi).trans ht
  rw [hok]
  simp only [↓reduceIte]
  have hw : le M (t * 4096 + 8 * i) 8 = W t i := (h2 t i hr.1 hi.1 hi.2).symm
  rw [hw]
  exact Unpack_spec hU hh fun A' hA => hk A' (RamW.closeH h1 h2 hA)
theorem store_head {t i x : Int} {Q : Int → AH → Prop} (h : Own (RamW r fr hs W :: R) A) (ht : hasF fr hs t = true) (hi : 0 ≤ i ∧ i < 512) (hx : U64 x) (hk : ∀ A', Own (RamW r fr hs (setW W t i x) :: R) A' → Q 0 A') :
    ram_RAM_Store_A (some ⟨r, 0, none⟩) (t * 4096 + 8 * i) 8 x Q A := by
  obtain ⟨M, ⟨h1, h2⟩, hh⟩ := RamW.openH h
  have hr := has_range ht h1.hi
  have hfr := h1.hi
  have hok : okA fr hs (t * 4096 + 8 * i) ((8 : Nat) : Int) = true := (okA_word hi).trans ht
  refine Store_spec (n := 8) hh h1.holes ⟨h1.lo, h1.hi⟩ (by omega) ⟨by omega, by omega⟩ (fun q => by rw [hok] at q; cases q) fun _ A' hA => hk A' (RamW.closeH h1 (fun t' i' q1 q2 q3 => ?_) hA)
  rw [word_st hi ⟨q2, q3⟩ hx]
  unfold setW
  rw [h2 t' i' q1 q2 q3]
theorem place_eq {t i : Int} (ht : 0 ≤ t ∧ t < 1048576) (hi : 0 ≤ i ∧ i < 512) {Q : Int → AH → Prop} (hk : Q (t * 4096 + 8 * i) A) : table_place_A t i Q A := by
  unfold table_place_A
  rw [place_wrap ht hi]
  exact hk
theorem put_head {t i f bx : Int} {pb pt : Option Addr} {b0 b1 b2 b3 b4 b5 b6 b7 : Bool} {Q : AH → Prop} (h : Own (RamW r fr hs W :: R) A) (ht : hasF fr hs t = true) (hi : 0 ≤ i ∧ i < 512) (hf : 0 ≤ f ∧ f < 1048576)
    (hk : ∀ A', Own (RamW r fr hs (setW W t i (packZ b0 b1 b2 b3 b4 b5 b6 b7 f)) :: R) A' → Q A') : table_Purse_put_A (some ⟨r, 0, none⟩) pb pt bx t i b0 b1 b2 b3 b4 b5 b6 b7 f Q A := by
  have hr := has_range ht (RamW.openH h).choose_spec.1.1.hi
  have hfr := (RamW.openH h).choose_spec.1.1.hi
  unfold table_Purse_put_A table_Purse_put_G
  refine Pack_spec h hf fun A1 h1 => place_eq ⟨hr.1, by omega⟩ hi ?_
  exact store_head h1 ht hi (pack_bits b0 b1 b2 b3 b4 b5 b6 b7 hf).2.2.2.2.2.2.2.2.2 fun A2 h2 => hk A2 h2
/-- A frame's bytes struck. -/
def zeroM (M : Int → Int) (f : Int) : Int → Int := fun c => if f * 4096 ≤ c ∧ c < f * 4096 + 4096 then 0 else M c
theorem pm_del (pm : Pm) (f : Int) (nd : (pm.map (·.1)).Nodup) : delM (pmMap pm) f = pmMap (pm.filter fun p => p.1 != f) := by
  induction pm with
  | nil => rfl
  | cons p pm ih =>
    simp only [List.map_cons, List.nodup_cons] at nd
    simp only [pmMap, List.map_cons, delM] at ih ⊢
    by_cases e : p.1 = f
    · rw [if_pos e]
      have : (p :: pm).filter (fun p => p.1 != f) = pm := by
        rw [List.filter_cons, if_neg (by simp [e])]
        rw [List.filter_eq_self]
        intro q hq
        simp
        intro g
        exact nd.1 (List.mem_map.2 ⟨q, hq, by rw [g, e]⟩)
      rw [this]
    · rw [if_neg e, ih nd.2, List.filter_cons, if_pos (by simpa using e)]
      rfl
theorem pages_zero {pm : Pm} {f : Int} (hf : ∀ p ∈ pm, p.1 ≠ f) : PagesAt (zeroM M f) pm = PagesAt M pm := by
  unfold PagesAt
  apply List.map_congr_left
  intro p hp
  have : pageCells (zeroM M f) p.1 = pageCells M p.1 := by
    unfold pageCells
    apply List.map_congr_left
    intro i hi
    have hi : i < 4096 := by simpa using hi
    unfold zeroM
    rw [if_neg (by have := hf p hp; omega)]
  rw [this]
theorem Zero_head {t : Int} {Q : Int → AH → Prop} (h : Own (RamW r fr hs W :: R) A) (ht : hasF fr hs t = true) (hk : ∀ A', Own (RamW r fr hs (zeroW W t) :: R) A' → Q 0 A') : ram_RAM_Zero_A (some ⟨r, 0, none⟩) t Q A := by
  obtain ⟨M, ⟨h1, h2⟩, hh⟩ := RamW.openH h
  unfold ram_RAM_Zero_A ram_RAM_Zero_G
  refine Has_spec (i := 0) hh rfl h1.holes (bsel_f (by rw [ht]; rfl) ?_)
  obtain ⟨s, h⟩ := Own.ex hh
  obtain ⟨mb, h⟩ := Own.ex h
  obtain ⟨pm, h⟩ := Own.ex h
  obtain ⟨ok, h⟩ := Own.pure h
  have hR : Own (ramL r fr hs s mb M pm ++ R) A := Own.flat h
  rw [show onSome (some (⟨r, 0, none⟩ : Addr)) = fun f => f ⟨r, 0, none⟩ from rfl]
  simp only [add_at]
  refine ld_M (i := 0) hR rfl rfl (dl_M (i := 2) hR rfl fun A' hA => hk A' ?_)
  rw [pm_del pm t ok.nodup] at hA
  have hA : Own (At r [.int .i64 fr, .slice s.a s.len s.cap, .map (some mb)] :: SlAt s 2 (holeCells hs) :: MapI mb .i64 (pmMap (pm.filter fun p => p.1 != t)) :: (PagesAt M pm ++ R)) A' := hA
  have hr := has_range ht h1.hi
  refine RamW.closeH (M := zeroM M t) h1 (fun t' i' q1 q2 q3 => ?_) ?_
  · unfold zeroW
    split
    · rename_i g
      subst g
      unfold wordAt
      have : le (zeroM M t') (t' * 4096 + 8 * i') 8 = le (fun _ => 0) (t' * 4096 + 8 * i') 8 := le_congr 8 _ fun c c1 c2 => by
        unfold zeroM
        rw [if_pos (by omega)]
      rw [this]; rfl
    · rename_i g
      rw [h2 t' i' q1 q2 q3]
      unfold wordAt
      refine le_congr 8 _ fun c c1 c2 => ?_
      unfold zeroM
      rw [if_neg (by omega)]
  · refine Own.imp (P := Own (ramL r fr hs s mb (zeroM M t) (pm.filter fun p => p.1 != t))) (fun B hB => ⟨s, mb, _, ⟨?_, fun a => ?_, fun a a0 a1 => ?_⟩, hB⟩) ?_
    · exact ok.nodup.sublist (List.filter_sublist.map _)
    · unfold zeroM
      split
      · omega
      · exact ok.byte a
    · unfold zeroM
      split
      · rfl
      · rename_i g
        refine ok.zero a a0 fun q => a1 ?_
        obtain ⟨p, hp, hpe⟩ := List.mem_map.1 q
        refine List.mem_map.2 ⟨p, List.mem_filter.2 ⟨hp, ?_⟩, hpe⟩
        simp
        omega
    · refine Own.app ?_
      unfold ramL
      rw [pages_zero (fun p hp => by simpa using (List.mem_filter.1 hp).2)]
      refine Own.sub ?_ hA
      show List.Sublist (_ :: _ :: _ :: (PagesAt M (pm.filter fun p => p.1 != t) ++ R)) _
      refine List.Sublist.cons_cons _ (List.Sublist.cons_cons _ (List.Sublist.cons_cons _ ?_))
      exact (List.filter_sublist.map _).append (List.Sublist.refl _)
end Go.Dn
