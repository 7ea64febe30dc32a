/- What the proof stands on: Boot2, LawBoots. -/
import Derived.Test.YtfchcnkgpklmhaaGreatLawTags
import Derived.Test.YtfchcnkgpklmhaaGreatRefFrames
/- A machine of spaces: how it begins, from any map. -/
namespace Go.Dn

variable {A : AH} {l R : List SP} {P : SP} {k : Nat} {s : Sl} {bs : List Int} {f tags : Int} {kn : Rg}
theorem okR_of : ∀ {m : List Rg} {last : Int}, NF m → (∀ r ∈ m, last ≤ r.1 ∧ r.2 ≤ 1048576) → okR last m = true
  | [], _, _, _ => rfl
  | r :: m, last, h, hb => by
    have h1 := h.1 r (by simp)
    have h2 := hb r (by simp)
    have h3 := (List.pairwise_cons.1 h.2).1
    have h4 := okR_of (last := r.2) h.tail fun q hq => ⟨Int.le_of_lt (h3 q hq), (hb q (by simp [hq])).2⟩
    unfold okR
    rw [decide_eq_false (by omega), decide_eq_false (by omega), decide_eq_false (by omega), h4]
    rfl
theorem sizeR_pos : ∀ {m : List Rg}, NF m → 0 ≤ sizeR m ∧ (m ≠ [] → 1 ≤ sizeR m)
  | [], _ => ⟨by simp [sizeR], fun h => absurd rfl h⟩
  | r :: m, h => by
    have h1 := h.1 r (by simp)
    have h2 := (sizeR_pos h.tail).1
    unfold sizeR
    exact ⟨by omega, fun _ => by omega⟩
theorem sizeR_snoc {m : List Rg} {v : Nat} {r : Rg} (h : m[v]? = some r) : sizeR (m.take (v + 1)) = sizeR (m.take v) + (r.2 - r.1) := by
  have app : ∀ (a b : List Rg), sizeR (a ++ b) = sizeR a + sizeR b := fun a b => by
    induction a with
    | nil => simp [sizeR]
    | cons x a ih => simp only [List.cons_append, sizeR, ih]; omega
  rw [take_succ h, app]
  simp [sizeR]
/-- What a machine's beginning comes to: an error's number. -/
def bootE (er : Int) (m : List Rg) (tags : Int) : Int := if er ≠ 0 then er else if tags < 1 ∨ tags > 4095 then 1 else if m.length > 64 then 4 else if sizeR m < 2 then 8 else 0
def BootL (c : Mb) (f n : Int) (F G : Int → Prop) (W : Int → Int → Int) (tags : Int) (l : List SP) : List SP :=
  RamW c.r f [] W :: Bud c.b F G (n - 2) :: TreeS c.t [⟨-1, n, 2, 0, true⟩] :: At c.m (macC c) :: MapI c.sp .i64 [] :: TlbS c.tl (List.replicate 16 ln0) :: PcS c.tg (pcNew tags) :: l
theorem Boot_spec {Q : Option Addr → Int → AH → Prop} (h : Own l A) (e : l[k]? = some P) (hr : Reads P s 1 (bs.map byV)) (hcap : s.len ≤ s.cap) (hn : s.a = none → bs = []) (hb : ∀ x ∈ bs, 0 ≤ x ∧ x < 256) (hf : f ≤ 3000 ∨ 1048576 < f)
    (hbad : ∀ er m A', frOut bs f kn er m → m.length ≤ 4224 → bootE er m tags ≠ 0 → Own l A' → Q none (bootE er m tags) A')
    (hk : ∀ er m A', frOut bs f kn er m → m.length ≤ 4224 → bootE er m tags = 0 → ∀ (c : Mb) F G W, Own (BootL c f (sizeR m) F G W tags l) A' → Q (some ⟨c.m, 0, none⟩) 0 A') :
    space_Boot_A f kn.1 kn.2 tags s Q A := by
  unfold space_Boot_A space_Boot_G
  refine Frames_spec (kn := kn) h e hr hcap hn hb fun er m s1 A2 ho hml hs1 h2 => ?_
  refine bsel_in (fun g => ?_) fun g => ?_
  · have g : er ≠ 0 := by simpa using g
    have he : bootE er m tags = er := by unfold bootE; rw [if_pos g]
    have := hbad er m A2 ho hml (by rw [he]; exact g) h2.tail
    rw [he] at this
    exact this
  have g : er = 0 := by simpa using g
  subst g
  obtain ⟨o1, o2, o3, o4, o5⟩ := frOut_ok ho rfl
  have hf1 : 1 ≤ f ∧ f ≤ 3000 := by
    unfold badArg at o1
    rcases hf with hf | hf <;> omega
  have hbd : ∀ r ∈ m, 0 ≤ r.1 ∧ r.2 ≤ f := fun r hr' => by
    have h12 := o3.1 r hr'
    have b1 := use_in hb hf1.1 ((o4 r.1).1 ⟨r, hr', by unfold inRg; omega⟩).1
    have b2 := use_in hb hf1.1 ((o4 (r.2 - 1)).1 ⟨r, hr', by unfold inRg; omega⟩).1
    omega
  by_cases ht : tags < 1 ∨ tags > 4095
  · have he : bootE 0 m tags = 1 := by unfold bootE; rw [if_neg (by simp), if_pos ht]
    have := hbad 0 m A2 ho hml (by rw [he]; simp) h2.tail
    rw [he] at this
    exact pNew_bad ht (bsel_t rfl this)
  refine pNew_spec h2 (by omega) (by omega) fun tg A3 h3 => bsel_f rfl ?_
  refine new_C (cs := lnC (List.replicate 16 ln0)) h3 fun tl A4 h4 => ?_
  refine new_M (k := .i64) h4 fun sp A5 h5 => ?_
  refine new_C (cs := [.pointer none, .pointer none, .pointer none, .pointer (some ⟨tl, 0, none⟩), .pointer (some ⟨tg, 0, none⟩), .int .i64 0, .map (some sp)]) h5 fun mb A6 h6 => ?_
  refine ram_spec h6 ⟨hf1.1, by omega⟩ fun r A7 h7 => ?_
  refine st_C (i := 1) h7 rfl rfl rfl fun A8 h8 => ?_
  have hok : okR 0 m = true := okR_of o3 fun r hr' => ⟨(hbd r hr').1, by have := (hbd r hr').2; omega⟩
  simp only [onSome_some, add_at, Nat.zero_add]
  refine bNew_spec (k := 5) (rs := m) h8 rfl reads_slB (fun g4 => ?_) (fun _ q => by rw [hok] at q; cases q) fun g4 _ b A9 h9 => ?_
  · have he : bootE 0 m tags = 4 := by unfold bootE; rw [if_neg (by simp), if_neg ht, if_pos g4]
    have fin : ∀ A', Own l A' → Q none 4 A' := fun A' h' => by
      have := hbad 0 m A' ho hml (by rw [he]; simp) h'
      rw [he] at this
      exact this
    exact st_C (i := 1) h8 rfl rfl rfl fun A9 h9 => bsel_t rfl (fin A9 h9.tail.tail.tail.tail.tail.tail)
  refine st_C (i := 2) h9 rfl rfl rfl fun A10 h10 => ?_
  refine bsel_f rfl (ld_P (i := 2) h10 rfl rfl ?_)
  have hsz := sizeR_le m 0 (by omega) hok
  refine Free_head h10 ?_
  refine qNew_spec h10 (fun g => by omega) fun _ t A11 h11 => ?_
  refine st_C (i := 3) h11 rfl rfl rfl fun A12 h12 => ?_
  unfold space_Machine_purse_A
  simp only [onSome_some, add_at, Nat.zero_add]
  refine ld_P (i := 3) h12 rfl rfl (ld_P (i := 3) h12 rfl rfl (ld_P (i := 3) h12 rfl rfl ?_))
  have h13 : Own (RamW r f [] (fun _ _ => 0) :: Bud b (inR m) (fun _ => False) (sizeR m) :: TreeS t [⟨-1, sizeR m, 0, 0, true⟩] :: At mb [.pointer (some ⟨r, 0, none⟩), .pointer (some ⟨b, 0, none⟩), .pointer (some ⟨t, 0, none⟩), .pointer (some ⟨tl, 0, none⟩), .pointer (some ⟨tg, 0, none⟩), .int .i64 0, .map (some sp)] :: MapI sp .i64 [] :: At tl (lnC (List.replicate 16 ln0)) :: PcS tg (pcNew tags) :: SlO s1 2 (rgs m) :: l) A12 := by
    have h12 : Own (TreeS t [⟨-1, sizeR m, 0, 0, true⟩] :: Bud b (inR m) (fun _ => False) (sizeR m) :: RamW r f [] (fun _ _ => 0) :: At mb [.pointer (some ⟨r, 0, none⟩), .pointer (some ⟨b, 0, none⟩), .pointer (some ⟨t, 0, none⟩), .pointer (some ⟨tl, 0, none⟩), .pointer (some ⟨tg, 0, none⟩), .int .i64 0, .map (some sp)] :: MapI sp .i64 [] :: At tl (lnC (List.replicate 16 ln0)) :: PcS tg (pcNew tags) :: SlO s1 2 (rgs m) :: l) A12 := h12
    exact (h12.pick 2 rfl).cons fun C hC => Own.swap hC
  have hnk : needK f = 1 := by unfold needK; omega
  refine Kernel_spec (i := 0) h13 rfl rfl (fun x hx => ?_) hf1.1 (fun e' W' A13 hq _ h14 => ?_) fun q1 q2 top ms W' A13 hmsl hms hK h14 => ?_
  · obtain ⟨r', hr', hx1, hx2⟩ := hx
    have := hbd r' hr'
    exact has0.2 ⟨by omega, by omega⟩
  · rw [hnk] at hq
    simp only at hq
    have hq8 : e' = 8 ∧ sizeR m < 2 := by omega
    obtain ⟨rfl, hlt⟩ := hq8
    have he : bootE 0 m tags = 8 := by unfold bootE; rw [if_neg (by simp), if_neg ht, if_neg (by omega), if_pos hlt]
    have fin : ∀ A', Own l A' → Q none 8 A' := fun A' h' => by
      have := hbad 0 m A' ho hml (by rw [he]; simp) h'
      rw [he] at this
      exact this
    exact st_C (i := 3) h14 rfl rfl rfl fun A14 h15 => bsel_t rfl (fin A14 h15.tail.tail.tail.tail.tail.tail.tail.tail)
  · rw [hnk] at hmsl q1 q2
    simp only at q1
    obtain ⟨mid, rfl⟩ := List.length_eq_one_iff.1 hmsl
    have he : bootE 0 m tags = 0 := by unfold bootE; rw [if_neg (by simp), if_neg ht, if_neg (by omega), if_neg (by omega)]
    have h14 : Own (RamW r f [] W' :: Bud b (fun x => inR m x ∧ x ∉ [top, mid]) (fun x => False ∨ x ∈ [top, mid]) (sizeR m - 2) :: TreeS t [⟨-1, sizeR m, 0 + 2, 0, true⟩] :: At mb [.pointer (some ⟨r, 0, none⟩), .pointer (some ⟨b, 0, none⟩), .pointer (some ⟨t, 0, none⟩), .pointer (some ⟨tl, 0, none⟩), .pointer (some ⟨tg, 0, none⟩), .int .i64 0, .map (some sp)] :: MapI sp .i64 [] :: At tl (lnC (List.replicate 16 ln0)) :: PcS tg (pcNew tags) :: SlO s1 2 (rgs m) :: l) A13 := h14
    refine st_C (i := 3) h14 rfl rfl rfl fun A14 h15 => bsel_f rfl (hk 0 m A14 ho hml he ⟨f, r, b, t, mb, tl, tg, sp, top⟩ (fun x => inR m x ∧ x ∉ [top, mid]) (fun x => False ∨ x ∈ [top, mid]) W' ?_)
    unfold BootL
    refine h15.cons fun C1 h => h.cons fun C2 h => h.cons fun C3 h => h.cons fun C4 h => h.cons fun C5 h => ?_
    refine (Own.imp (P' := TlbS tl (List.replicate 16 ln0)) (fun B hB => ⟨by simp, hB⟩) h).cons fun C6 h => h.cons fun C7 h => h.tail
end Go.Dn
/- The law SpaceBoots: a machine boots with just the frames that its map says. -/
namespace Go.Dn

variable {A : AH} {l R : List SP} {P : SP} {k : Nat} {s : Sl} {bs : List Int} {f tags : Int} {kn : Rg}
theorem Boot_one {Q : Option Addr → Int → AH → Prop} (h : Own l A) (e : l[k]? = some P) (hr : Reads P s 1 (bs.map byV)) (hcap : s.len ≤ s.cap) (hn : s.a = none → bs = []) (hb : ∀ x ∈ bs, 0 ≤ x ∧ x < 256) (hf : f ≤ 3000 ∨ 1048576 < f)
    (hk : ∀ er m pt A' (L : List SP) (k' : Nat), frOut bs f kn er m → m.length ≤ 4224 → L[k']? = some P → Own L A' → ((bootE er m tags ≠ 0 ∧ pt = none ∧ L = l) ∨ (bootE er m tags = 0 ∧ ∃ (c : Mb) (F G : Int → Prop) (W : Int → Int → Int), pt = some ⟨c.m, 0, none⟩ ∧ L = BootL c f (sizeR m) F G W tags l)) → Q pt (bootE er m tags) A') :
    space_Boot_A f kn.1 kn.2 tags s Q A :=
  Boot_spec h e hr hcap hn hb hf (fun er m A' ho hml he hA => hk er m none A' l k ho hml e hA (.inl ⟨he, rfl, rfl⟩)) fun er m A' ho hml he c F G W hA => by
    have := hk er m (some ⟨c.m, 0, none⟩) A' (BootL c f (sizeR m) F G W tags l) (k + 7) ho hml (by unfold BootL; simpa using e) hA (.inr ⟨he, c, F, G, W, rfl, rfl⟩)
    rw [he] at this
    exact this
theorem Spaces_nil {c : Mb} {n : Int} {F G : Int → Prop} {W : Int → Int → Int} {Q : Sl → AH → Prop} (h : Own (R ++ BootL c f n F G W tags l) A) (hR : R = []) (hk : ∀ A', Own (BootL c f n F G W tags l) A' → Q Sl.nil A') : space_Machine_Spaces_A (some ⟨c.m, 0, none⟩) Q A := by
  subst hR
  have h : Own (BootL c f n F G W tags l) A := h
  unfold space_Machine_Spaces_A space_Machine_Spaces_G maps_Keys_map_int_space_one_int_space_one_A slices_Sorted_int_A slices_Sorted_int_G slices_Collect_int_s2_A slices_Sort_int_int_A
  refine ld_M (i := 3) h rfl rfl ?_
  refine new_C (cs := [.map (some c.sp)]) h fun b A1 h1 => ?_
  refine cl_M (m := []) (i := 5) (j := 0) h1 rfl rfl (by simp) (fun p hp => by cases hp) (fun _ => ?_) fun ss s' A2 hp hne _ _ => absurd (List.perm_nil.1 hp) hne
  exact ⟨[], rfl, by simp [Sl.nil], rfl, (fun a ha => by cases ha), hk A1 h1.tail⟩
theorem Stale_nil {c : Mb} {n : Int} {F G : Int → Prop} {W : Int → Int → Int} {Q : Sl → AH → Prop} (h : Own (BootL c f n F G W tags l) A) (hk : ∀ s' A', s'.len = 0 → Own (BootL c f n F G W tags l) A' → Q s' A') : space_Machine_Stale_A (some ⟨c.m, 0, none⟩) Q A := by
  unfold space_Machine_Stale_A space_Machine_Stale_G
  refine new_C (cs := [.pointer (some ⟨c.m, 0, none⟩)]) h fun b A1 h1 => ?_
  refine ld_P (i := 0) h1 rfl rfl (ld_P (i := 4) h1 rfl rfl ?_)
  have h2 : Own (TlbS c.tl (List.replicate 16 ln0) :: At b [.pointer (some ⟨c.m, 0, none⟩)] :: RamW c.r f [] W :: Bud c.b F G (n - 2) :: TreeS c.t [⟨-1, n, 2, 0, true⟩] :: At c.m (macC c) :: MapI c.sp .i64 [] :: PcS c.tg (pcNew tags) :: l) A1 := h1.pick 6 rfl
  refine Lines_spec h2 fun s6 A2 hs6 h3 => ?_
  have hl : s6.len = 0 := by rw [hs6]; rfl
  unfold slices_DeleteFunc_tlb_Line_tlb_Line_A slices_DeleteFunc_tlb_Line_tlb_Line_G slices_IndexFunc_tlb_Line_tlb_Line_A slices_IndexFunc_tlb_Line_tlb_Line_G
  refine ⟨fun x m A' => x = 0 ∧ A' = A2, ⟨0, rfl, rfl⟩, fun x m A3 ⟨e1, e2⟩ => ?_⟩
  subst e1 e2
  refine bsel_f (by rw [hl]; rfl) (bsel_t rfl (hk s6 A3 hl ?_))
  have h4 : Own (TlbS c.tl (List.replicate 16 ln0) :: RamW c.r f [] W :: Bud c.b F G (n - 2) :: TreeS c.t [⟨-1, n, 2, 0, true⟩] :: At c.m (macC c) :: MapI c.sp .i64 [] :: PcS c.tg (pcNew tags) :: l) A3 := h3.tail.cons fun C hC => hC.tail
  exact Own.back (l := BootL c f n F G W tags l) (P := TlbS c.tl (List.replicate 16 ln0)) (P' := TlbS c.tl (List.replicate 16 ln0)) 5 rfl h4
theorem SpaceBoots_spec {Q : Bool → AH → Prop} (h : Own l A) (e : l[k]? = some P) (hr : Reads P s 1 (bs.map byV)) (hcap : s.len ≤ s.cap) (hn : s.a = none → bs = []) (hb : ∀ x ∈ bs, 0 ≤ x ∧ x < 256)
    (hk : ∀ A', Own l A' → Q true A') : demesnelaw12_SpaceBoots_A f kn.1 kn.2 tags s Q A := by
  unfold demesnelaw12_SpaceBoots_A demesnelaw12_SpaceBoots_G
  refine Cut_spec h e hr hcap hn fun s1 A1 hs1 h1 => ?_
  have hb : ∀ x ∈ bs.take 1400, 0 ≤ x ∧ x < 256 := fun x hx => hb x (List.mem_of_mem_take hx)
  generalize bs.take 1400 = bs at *
  refine ⟨fun A' => A' = A1 ∧ (f ≤ 3000 ∨ 1048576 < f), fun A2 ⟨e2, hf⟩ => ?_, ?_⟩
  · subst e2
    refine Boot_one (k := 0) (kn := kn) h1 rfl reads_slB h1.capS6 hs1 hb hf fun er m pt A3 L k' ho hml hL h3 hcase => ?_
    obtain ⟨e', he'⟩ : ∃ e', e' = bootE er m tags := ⟨_, rfl⟩
    have hfin : ∀ A', Own L A' → Own l A' := fun A' h' => by
      rcases hcase with ⟨_, _, hL⟩ | ⟨_, c, F, G, W, _, hL⟩
      · rw [hL] at h'; exact h'.tail
      · rw [hL] at h'; exact h'.tail.tail.tail.tail.tail.tail.tail.tail
    refine RefFrames_spec (k := k') (kn := kn) h3 hL reads_slB h1.capS6 hb fun er2 m2 s10 A4 ho2 _ _ h4 => ?_
    obtain ⟨e1, e2⟩ := frOut_det ho ho2
    subst e1 e2
    have hl10 := rd_rg_len (k := 0) h4 rfl reads_slB
    have hpos : ∀ r ∈ m, 0 ≤ r.2 - r.1 ∧ r.2 - r.1 ≤ 1048576 := fun r hrm => by
      by_cases her : er = 0
      · obtain ⟨o1, _, o3, o4, _⟩ := frOut_ok ho her
        have h12 := o3.1 r hrm
        have hf1 : 1 ≤ f ∧ f ≤ 1048576 := by unfold badArg at o1; omega
        have b1 := use_in hb hf1.1 ((o4 r.1).1 ⟨r, hrm, by unfold inRg; omega⟩).1
        have b2 := use_in hb hf1.1 ((o4 (r.2 - 1)).1 ⟨r, hrm, by unfold inRg; omega⟩).1
        omega
      · rw [frOut_err ho her] at hrm; cases hrm
    refine ⟨fun x y mm A' => ∃ v : Nat, y = v ∧ mm + v = m.length ∧ x = sizeR (m.take v) ∧ 0 ≤ x ∧ x ≤ v * 1048576 ∧ A' = A4, ⟨m.length, 0, rfl, rfl, by simp [sizeR], by omega, by simp, rfl⟩, ?_⟩
    intro x y mm A5 ⟨v, g1, g2, g3, g4, g5, g6⟩
    subst g1 g6
    refine bsel_in (fun cc => ?_) fun cc => ?_
    · have cc : (v : Int) < s10.len := of_decide_eq_true cc
      obtain ⟨r, hrv⟩ : ∃ r, m[v]? = some r := ⟨m[v]'(by omega), by simp⟩
      obtain ⟨a, q1, r1, r2⟩ := rd_rg (k := 0) h4 rfl reads_slB hrv
      rw [q1]
      have hrp := hpos r (List.mem_of_getElem? hrv)
      have hst := sizeR_snoc hrv
      refine inB_in (by omega) cc (r1 _ (r2 _ ⟨mm - 1, by omega, v + 1, by rw [w64] <;> omega, by omega, ?_, ?_, ?_, rfl⟩))
      · rw [w64 (n := r.2 - r.1) (by omega) (by omega), w64 (by omega) (by omega), hst, g3]
      · rw [w64 (n := r.2 - r.1) (by omega) (by omega), w64 (by omega) (by omega)]; omega
      · rw [w64 (n := r.2 - r.1) (by omega) (by omega), w64 (by omega) (by omega)]; omega
    · have cc : ¬ (v : Int) < s10.len := of_decide_eq_false cc
      have hv : v = m.length := by omega
      subst hv
      rw [List.take_length] at g3
      subst g3
      refine ⟨fun x' A' => A' = A5 ∧ x' = (if er ≠ 0 then er else if tags < 1 ∨ tags > 4095 then 1 else 0), fun x' A6 ⟨j1, j2⟩ => ?_, ?_⟩
      · subst j1
        refine ⟨fun x' A' => A' = A6 ∧ x' = (if er ≠ 0 then er else if tags < 1 ∨ tags > 4095 then 1 else if m.length > 64 then 4 else 0), fun x2 A7 ⟨i1, i2⟩ => ?_, ?_⟩
        · subst i1
          refine ⟨fun x' A' => A' = A7 ∧ x' = bootE er m tags, fun x3 A8 ⟨t1, t2⟩ => ?_, ?_⟩
          · subst t1 t2
            refine ⟨fun A' => bootE er m tags = 0 ∧ Own L A', fun A9 ⟨z1, h9⟩ => ?_, ?_⟩
            · rcases hcase with ⟨z2, _⟩ | ⟨_, c, F, G, W, hpt, hLe⟩
              · exact absurd z1 z2
              subst hpt
              rw [hLe] at h9
              refine bsel_t rfl (ld_P (i := 3) h9 rfl rfl (Free_head (Own.swap h9) ?_))
              have hw : IntKind.wrap .i64 (sizeR m - 2) = sizeR m - 2 := w64 (by omega) (by omega)
              rw [hw]
              refine bsel_t (by simp) (ld_P (i := 3) h9 rfl rfl ?_)
              have h10 : Own (TreeS c.t [⟨-1, sizeR m, 2, 0, true⟩] :: RamW c.r f [] W :: Bud c.b F G (sizeR m - 2) :: At c.m (macC c) :: MapI c.sp .i64 [] :: TlbS c.tl (List.replicate 16 ln0) :: PcS c.tg (pcNew tags) :: SlO s1 1 (bs.map byV) :: l) A9 := h9.pick 2 rfl
              obtain ⟨blk, cap, rest, ⟨y1, y2⟩, hh⟩ := TreeS.openH h10
              refine Room_raw (i := 0) hh rfl rfl (y2 _ (by simp)) ?_
              refine bsel_t (by simp) ?_
              refine Spaces_nil (R := []) h9 rfl fun A10 h11 => bsel_t rfl ?_
              refine Stale_nil h11 fun s12 A11 hs12 h12 => ?_
              have : (Int.ofNat s12.len == (0 : Int)) = true := by rw [hs12]; rfl
              rw [this]
              exact hk A11 h12.tail.tail.tail.tail.tail.tail.tail.tail
            · refine awake12_spec h4 fun A9 h9 => bsel_f rfl (bsel_f (by simp) ?_)
              refine bsel_in (fun z0 => ?_) fun z0 => ?_
              · have z0 : bootE er m tags ≠ 0 := by simpa using z0
                rcases hcase with ⟨_, hpt, _⟩ | ⟨z2, _⟩
                · subst hpt
                  refine awake12_spec h9 fun A10 h10 => bsel_t rfl (bsel_t (by simp) ?_)
                  have : ((none : Option Addr).isNone == (bootE er m tags != (0 : Int))) = true := by simp [z0]
                  rw [this]
                  exact hk A10 (hfin A10 h10.tail)
                · exact absurd z2 z0
              · have z0 : bootE er m tags = 0 := by simpa using z0
                exact ⟨z0, h9.tail⟩
          · have base : ∀ b : Bool, _ := fun (_ : Bool) => True.intro
            clear base
            unfold bootE
            subst i2
            refine bsel_in (fun z0 => bsel_in (fun z1 => ⟨rfl, ?_⟩) fun z1 => ⟨rfl, ?_⟩) fun z0 => ⟨rfl, ?_⟩
            · have z1 : sizeR m < 2 := of_decide_eq_true z1
              have z0 := eq_of_beq z0
              split at z0
              · rename_i q; exact absurd z0 q
              · rename_i q
                split at z0
                · cases z0
                · rename_i q2
                  split at z0
                  · cases z0
                  · rename_i q3
                    rw [if_neg q, if_neg q2, if_neg q3, if_pos z1]
            · have z1 : ¬ sizeR m < 2 := of_decide_eq_false z1
              split
              · rfl
              · split
                · rfl
                · split
                  · rfl
                  · first | rfl | rw [if_neg z1]
            · have z0 : ¬ (if er ≠ 0 then er else if tags < 1 ∨ tags > 4095 then 1 else if m.length > 64 then 4 else 0) = 0 := by simpa using z0
              split
              · rfl
              · rename_i q
                rw [if_neg q] at z0
                split
                · rfl
                · rename_i q2
                  rw [if_neg q2] at z0
                  split
                  · rfl
                  · rename_i q3
                    rw [if_neg q3] at z0
                    exact absurd rfl z0
        · subst j2
          refine bsel_in (fun z0 => bsel_in (fun z1 => ⟨rfl, ?_⟩) fun z1 => ⟨rfl, ?_⟩) fun z0 => ⟨rfl, ?_⟩
          · have z1 : (s10.len : Int) > 64 := of_decide_eq_true z1
            have z0 := eq_of_beq z0
            split at z0
            · rename_i q; exact absurd z0 q
            · rename_i q
              split at z0
              · cases z0
              · rename_i q2
                rw [if_neg q, if_neg q2, if_pos (by omega)]
          · have z1 : ¬ (s10.len : Int) > 64 := of_decide_eq_false z1
            split
            · rfl
            · split
              · rfl
              · rw [if_neg (by omega)]
          · have z0 : ¬ (if er ≠ 0 then er else if tags < 1 ∨ tags > 4095 then 1 else 0) = 0 := by simpa using z0
            split
            · rfl
            · rename_i q
              rw [if_neg q] at z0
              split
              · rfl
              · rename_i q2
                rw [if_neg q2] at z0
                exact absurd rfl z0
      · refine bsel_in (fun z0 => bsel_in (fun z1 => ⟨rfl, ?_⟩) fun z1 => bsel_in (fun z2 => ⟨rfl, ?_⟩) fun z2 => ⟨rfl, ?_⟩) fun z0 => ⟨rfl, ?_⟩
        · have z1 : tags < 1 := of_decide_eq_true z1
          have z0 : er = 0 := eq_of_beq z0
          rw [if_neg (by simp [z0]), if_pos (.inl z1)]
        · have z2 : tags > 4095 := of_decide_eq_true z2
          have z0 : er = 0 := eq_of_beq z0
          rw [if_neg (by simp [z0]), if_pos (.inr z2)]
        · have z1 : ¬ tags < 1 := of_decide_eq_false z1
          have z2 : ¬ tags > 4095 := of_decide_eq_false z2
          have z0 : er = 0 := eq_of_beq z0
          rw [if_neg (by simp [z0]), if_neg (by omega)]
          exact z0
        · have z0 : er ≠ 0 := by simpa using z0
          rw [if_pos z0]
  · refine bsel_in (fun g => bsel_in (fun g2 => awake12_spec h1 fun A5 h5 => hk A5 h5.tail) fun g2 => ⟨rfl, ?_⟩) fun g => ⟨rfl, ?_⟩
    · have g2 : ¬ f ≤ 1048576 := of_decide_eq_false g2
      exact .inr (by omega)
    · have g : ¬ f > 3000 := of_decide_eq_false g
      exact .inl (by omega)
end Go.Dn
