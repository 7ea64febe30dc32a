/- What the proof stands on, part 3: Ram, Pte, RamAt, Slices, Walk, Entry, Maps, RamNew, Words, Bits, Blocks, Buddy, BudNew, Quota, Purse, Kernel, Tabs, Down, Query, Protect, Clear, Unmap, Pages, Root, MapL, Map, Map2. -/
import Derived.Test.YtcdcmffcajlolaaM1
import Derived.Test.YtcdcmffcajlolaaM2
/- The memory's contracts. -/
namespace Go.Dn

def hasF (fr : Int) (hs : List (Int × Int)) (f : Int) : Bool := decide (0 ≤ f) && decide (f < fr) && hs.all fun p => !(decide (p.1 ≤ f) && decide (f < p.2))
def holeCells (hs : List (Int × Int)) : List Value := hs.flatMap fun p => [.int .i64 p.1, .int .i64 p.2]
theorem holeCells_at : ∀ {hs : List (Int × Int)} {j : Nat} {p : Int × Int}, hs[j]? = some p → (holeCells hs)[j * 2]? = some (.int .i64 p.1) ∧ (holeCells hs)[j * 2 + 1]? = some (.int .i64 p.2)
  | [], _, _, h => by simp at h
  | q :: hs, 0, p, h => by simp at h; subst h; exact ⟨rfl, rfl⟩
  | q :: hs, j + 1, p, h => by
    have := holeCells_at (hs := hs) (j := j) (p := p) (by simpa using h)
    rw [show (j + 1) * 2 = j * 2 + 2 by omega, show j * 2 + 2 + 1 = j * 2 + 1 + 2 by omega]
    exact this
theorem holeCells_len (hs : List (Int × Int)) : (holeCells hs).length = hs.length * 2 := by
  induction hs with
  | nil => rfl
  | cons p hs ih => show (holeCells hs).length + 2 = _; rw [ih]; simp; omega
def pageCells (M : Int → Int) (f : Int) : List Value := (List.range 4096).map fun (i : Nat) => .int .u8 (M (f * 4096 + i))
abbrev Pm := List (Int × Nat)
def pmMap (pm : Pm) : List (Int × Value) := pm.map fun p => (p.1, .pointer (some ⟨p.2, 0, none⟩))
def PagesAt (M : Int → Int) (pm : Pm) : List SP := pm.map fun p => At p.2 (pageCells M p.1)
structure PmOK (M : Int → Int) (pm : Pm) : Prop where
  nodup : (pm.map (·.1)).Nodup
  byte : ∀ a, 0 ≤ M a ∧ M a < 256
  zero : ∀ a, 0 ≤ a → a / 4096 ∉ pm.map (·.1) → M a = 0
def ramL (r : Nat) (fr : Int) (hs : List (Int × Int)) (s : Sl) (mb : Nat) (M : Int → Int) (pm : Pm) : List SP :=
  At r [.int .i64 fr, .slice s.a s.len s.cap, .map (some mb)] :: SlAt s 2 (holeCells hs) :: MapI mb .i64 (pmMap pm) :: PagesAt M pm
/-- A memory: so many frames, these holes, these bytes. -/
def RamS (r : Nat) (fr : Int) (hs : List (Int × Int)) (M : Int → Int) : SP := fun B => ∃ s mb pm, PmOK M pm ∧ Own (ramL r fr hs s mb M pm) B

variable {A : AH} {l : List SP} {r : Nat} {fr : Int} {hs : List (Int × Int)} {M : Int → Int}
theorem RamS.open {i : Nat} (h : Own l A) (e : l[i]? = some (RamS r fr hs M)) : ∃ s mb pm, PmOK M pm ∧ Own (ramL r fr hs s mb M pm) A := by
  obtain ⟨B, u, s, mb, pm, h1, h2⟩ := h.get e
  exact ⟨s, mb, pm, h1, h2.mono u⟩

theorem Has_spec {i : Nat} {f : Int} {Q : Bool → AH → Prop} (h : Own l A) (e : l[i]? = some (RamS r fr hs M)) (hl : hs.length ≤ 64) (hk : Q (hasF fr hs f) A) : ram_RAM_Has_A (some ⟨r, 0, none⟩) f Q A := by
  obtain ⟨s, mb, pm, ok, ho⟩ := RamS.open h e
  have hlen : s.len * 2 = hs.length * 2 := by rw [← holeCells_len]; exact sl_len (i := 1) ho rfl
  have hlen : s.len = hs.length := by omega
  unfold ram_RAM_Has_A
  refine bsel_in (fun c => ?_) fun c => ?_
  · have : hasF fr hs f = false := by simp at c; simp [hasF]; intros; omega
    rw [this] at hk; exact hk
  refine ld_I (i := 0) ho rfl rfl ?_
  refine bsel_in (fun c2 => ?_) fun c2 => ?_
  · have : hasF fr hs f = false := by simp at c2; simp [hasF]; intros; omega
    rw [this] at hk; exact hk
  simp at c c2
  show aS (Addr.add ⟨r, 0, none⟩ 1) A _
  rw [add_at]
  refine ld_S (i := 0) ho rfl rfl ?_
  refine ⟨fun x m h' => h' = A ∧ ∃ j : Nat, x = j ∧ j ≤ hs.length ∧ m = hs.length - j ∧ ∀ q : Nat, q < j → ∀ p, hs[q]? = some p → ¬(p.1 ≤ f ∧ f < p.2), ⟨_, rfl, 0, rfl, by omega, rfl, fun q hq => absurd hq (by omega)⟩, ?_⟩
  intro x m h' ⟨e1, j, e2, e3, e4, e5⟩
  subst e1 e2
  refine bsel_in (fun c3 => ?_) fun c3 => ?_
  · simp [hlen] at c3
    obtain ⟨p, hp⟩ : ∃ p, hs[j]? = some p := ⟨hs[j], by simp [c3]⟩
    obtain ⟨h1, h2⟩ := holeCells_at hp
    obtain ⟨b, o, g1, g2⟩ := sl_cell (i := 1) ho rfl h1
    obtain ⟨b', o', g3, g4⟩ := sl_cell (i := 1) ho rfl h2
    rw [g1] at g3
    cases g3
    show onSome s.a _
    rw [g1]
    refine inB_in (by omega) (by simp [hlen]; omega) ⟨p.1, ?_, p.2, ?_, ?_⟩
    · rw [add_at]; simpa using g2
    · rw [add_at, add_at]; simpa [Nat.add_assoc] using g4
    have hnext : ¬(p.1 ≤ f ∧ f < p.2) → ∃ m7, m7 < m ∧ h' = h' ∧ ∃ j' : Nat, IntKind.wrap .i64 ((j : Int) + 1) = j' ∧ j' ≤ hs.length ∧ m7 = hs.length - j' ∧ ∀ q : Nat, q < j' → ∀ p, hs[q]? = some p → ¬(p.1 ≤ f ∧ f < p.2) := by
      intro hn
      refine ⟨hs.length - (j + 1), by omega, rfl, j + 1, by rw [w64] <;> omega, by omega, rfl, ?_⟩
      intro q hq p' hp'
      by_cases hqj : q = j
      · subst hqj; rw [hp] at hp'; cases hp'; exact hn
      · exact e5 q (by omega) p' hp'
    refine bsel_in (fun c4 => ?_) fun c4 => hnext (by simp at c4; omega)
    refine bsel_in (fun c5 => ?_) fun c5 => hnext (by simp at c5; omega)
    have : hasF fr hs f = false := by
      simp at c4 c5
      simp only [hasF, Bool.and_eq_false_iff, List.all_eq_false]
      refine .inr ⟨p, List.mem_of_getElem? hp, ?_⟩
      simp [c4, c5]
    rw [this] at hk; exact hk
  · simp [hlen] at c3
    have : hasF fr hs f = true := by
      simp only [hasF, Bool.and_eq_true, List.all_eq_true]
      refine ⟨⟨by simpa using c, by simpa using c2⟩, fun p hp => ?_⟩
      obtain ⟨q, hq⟩ := List.mem_iff_getElem?.1 hp
      have hlt := (List.getElem?_eq_some_iff.1 hq).1
      have := e5 q (by omega) p hq
      simp
      omega
    rw [this] at hk; exact hk
def okA (fr : Int) (hs : List (Int × Int)) (a z : Int) : Bool := decide (a + z ≤ fr * 4096) && hasF fr hs (a / 4096) && hasF fr hs ((a + z - 1) / 4096)
theorem check_spec {i : Nat} {a z : Int} {Q : Int → AH → Prop} (h : Own l A) (e : l[i]? = some (RamS r fr hs M)) (hl : hs.length ≤ 64) (hf : 0 ≤ fr ∧ fr ≤ 1048576) (hz : z = 1 ∨ z = 2 ∨ z = 4 ∨ z = 8)
    (ha : 0 ≤ a ∧ a < 18446744073709551616) (hk : Q (if okA fr hs a z then 0 else 2) A) : ram_RAM_check_A (some ⟨r, 0, none⟩) a z Q A := by
  obtain ⟨s, mb, pm, ok, ho⟩ := RamS.open h e
  unfold ram_RAM_check_A ram_RAM_check_G
  refine ⟨fun b h' => b = true ∧ h' = A, ?_, ?_⟩
  · intro b h' ⟨e1, e2⟩
    subst e1 e2
    refine bsel_t rfl ?_
    have hz2 : IntKind.wrap .u64 z = z := wu64 (by omega) (by omega)
    have hlast : IntKind.wrap .u64 (IntKind.wrap .u64 (a + IntKind.wrap .u64 z) - 1) = (a + z - 1) % 18446744073709551616 := by rw [hz2, wu64m, wu64m]; omega
    rw [hlast]
    have hno : ¬ (a + z ≤ fr * 4096) → Q 2 h' := fun g => by
      have : okA fr hs a z = false := by simp [okA, g]
      rw [this] at hk; exact hk
    refine bsel_in (fun c => hno ?_) fun c => ?_
    · simp at c; omega
    simp at c
    have hlt : a + z - 1 < 18446744073709551616 := by omega
    have hm : (a + z - 1) % 18446744073709551616 = a + z - 1 := by omega
    rw [hm]
    refine ld_I (i := 0) ho rfl rfl ?_
    rw [tdiv4096 (by omega), tdiv4096 (by omega), wu64 (n := (a + z - 1) / 4096) (by omega) (by omega), wu64 (n := a / 4096) (by omega) (by omega), wu64 (n := fr) (by omega) (by omega),
      w64 (n := (a + z - 1) / 4096) (by omega) (by omega), w64 (n := a / 4096) (by omega) (by omega)]
    refine bsel_in (fun c2 => hno ?_) fun c2 => ?_
    · simp at c2; omega
    simp at c2
    have hle : a + z ≤ fr * 4096 := by omega
    refine Has_spec h e hl ?_
    refine bsel_in (fun c3 => ?_) fun c3 => ?_
    · simp at c3
      have : okA fr hs a z = false := by simp [okA, c3]
      rw [this] at hk; exact hk
    refine Has_spec h e hl ?_
    refine bsel_in (fun c4 => ?_) fun c4 => ?_
    · simp at c4
      have : okA fr hs a z = false := by simp [okA, c4]
      rw [this] at hk; exact hk
    · simp at c3 c4
      have : okA fr hs a z = true := by simp [okA, c3, c4, hle]
      rw [this] at hk; exact hk
  · rcases hz with rfl | rfl | rfl | rfl <;> simp [bsel]

theorem pm_lookup (pm : Pm) (f : Int) : (pmMap pm).lookup f = (pm.lookup f).map fun b => .pointer (some ⟨b, 0, none⟩) := by
  induction pm with
  | nil => rfl
  | cons p pm ih =>
    show ((p.1, _) :: pmMap pm).lookup f = _
    simp only [List.lookup]
    cases h : f == p.1
    · simp [ih]
    · simp
theorem lookup_mem {pm : Pm} {f : Int} {b : Nat} (h : pm.lookup f = some b) : (f, b) ∈ pm := by
  induction pm with
  | nil => simp at h
  | cons p pm ih =>
    simp only [List.lookup] at h
    split at h
    · rename_i g
      have := by simpa using g
      subst this
      cases h
      exact List.mem_cons_self
    · exact List.mem_cons_of_mem _ (ih h)
theorem lookup_none {pm : Pm} {f : Int} (h : pm.lookup f = none) : f ∉ pm.map (·.1) := by
  induction pm with
  | nil => simp
  | cons p pm ih =>
    simp only [List.lookup] at h
    split at h
    · cases h
    · rename_i g
      have g2 : f ≠ p.1 := by simpa using g
      simp only [List.map_cons, List.mem_cons, not_or]
      exact ⟨g2, ih h⟩
theorem page_at {M : Int → Int} {f : Int} {j : Nat} (hj : j < 4096) : (pageCells M f)[j]? = some (.int .u8 (M (f * 4096 + j))) := by
  simp [pageCells, hj]
theorem page_get {M : Int → Int} {f : Int} {j : Nat} : (pageCells M f)[j]? = if j < 4096 then some (.int .u8 (M (f * 4096 + j))) else none := by
  by_cases h : j < 4096
  · rw [if_pos h, page_at h]
  · rw [if_neg h]
    simp [pageCells]
    omega
theorem page_set {M : Int → Int} {f v : Int} {j : Nat} (hj : j < 4096) : (pageCells M f).set j (.int .u8 v) = pageCells (fun c => if c = f * 4096 + j then v else M c) f := by
  apply List.ext_getElem?
  intro c
  rw [List.getElem?_set, page_get, page_get]
  have hlen : (pageCells M f).length = 4096 := by simp [pageCells]
  rw [hlen]
  by_cases g : j = c
  · subst g
    rw [if_pos rfl, if_pos hj, if_pos hj]
    simp
  · rw [if_neg g]
    by_cases q : c < 4096
    · rw [if_pos q, if_pos q, if_neg (by omega)]
    · rw [if_neg q, if_neg q]
theorem page_other {M : Int → Int} {f g v : Int} {j : Nat} (hj : j < 4096) (hne : g ≠ f) : pageCells (fun c => if c = f * 4096 + j then v else M c) g = pageCells M g := by
  apply List.ext_getElem?
  intro c
  rw [page_get, page_get]
  by_cases q : c < 4096
  · rw [if_pos q, if_pos q, if_neg (by omega)]
  · rw [if_neg q, if_neg q]
theorem pages_at {pm : Pm} {f : Int} {b : Nat} (h : (f, b) ∈ pm) : ∃ i : Nat, pm[i]? = some (f, b) ∧ (PagesAt M pm)[i]? = some (At b (pageCells M f)) := by
  obtain ⟨i, hi⟩ := List.mem_iff_getElem?.1 h
  exact ⟨i, hi, by simp [PagesAt, hi]⟩

theorem Load_spec {i : Nat} {a : Int} {n : Nat} {Q : Int → Int → AH → Prop} (h : Own l A) (e : l[i]? = some (RamS r fr hs M)) (hl : hs.length ≤ 64) (hf : 0 ≤ fr ∧ fr ≤ 1048576) (hz : n = 1 ∨ n = 2 ∨ n = 4 ∨ n = 8)
    (ha : 0 ≤ a ∧ a < 18446744073709551616) (hk : Q (if okA fr hs a n then le M a n else 0) (if okA fr hs a n then 0 else 2) A) : ram_RAM_Load_A (some ⟨r, 0, none⟩) a n Q A := by
  unfold ram_RAM_Load_A ram_RAM_Load_G
  refine check_spec h e hl hf (by omega) ha ?_
  cases hok : okA fr hs a n with
  | false => rw [hok] at hk; exact bsel_t rfl hk
  | true =>
    rw [hok] at hk
    refine bsel_f rfl ?_
    obtain ⟨s, mb, pm, ok, ho⟩ := RamS.open h e
    have hle : a + n ≤ fr * 4096 := by simp [okA] at hok; omega
    refine ⟨fun x i m h' => h' = A ∧ ∃ j : Nat, j ≤ n ∧ i = (j : Int) - 1 ∧ m = j ∧ x = le M (a + j) (n - j), ⟨n, rfl, n, Nat.le_refl _, by rw [w64] <;> omega, rfl, by simp [le]⟩, ?_⟩
    intro x i m h' ⟨e1, j, e2, e3, e4, e5⟩
    subst e1 e3 e4 e5
    refine bsel_in (fun c => ?_) fun c => ?_
    · have c : 0 ≤ (m : Int) - 1 := by simpa using c
      obtain ⟨j, rfl⟩ : ∃ j, m = j + 1 := ⟨m - 1, by omega⟩
      have hj : ((j + 1 : Nat) : Int) - 1 = j := by omega
      rw [hj]
      have hb := le_bound ok.byte (n - (j + 1)) (a + ((j + 1 : Nat) : Int))
      have hb2 : (256 : Int) ^ (n - (j + 1)) ≤ 72057594037927936 := by
        have h1 : n - (j + 1) ≤ 7 := by omega
        have h2 : (256 : Nat) ^ (n - (j + 1)) ≤ 256 ^ 7 := Nat.pow_le_pow_right (by omega) h1
        have h3 : ((256 : Nat) ^ (n - (j + 1)) : Nat) ≤ (72057594037927936 : Nat) := h2
        have h4 : (((256 : Nat) ^ (n - (j + 1)) : Nat) : Int) ≤ 72057594037927936 := by omega
        simpa using h4
      refine ⟨fun y h'' => h'' = h' ∧ y = le M (a + (j : Int)) (n - j), ?_, ?_⟩
      · intro y h'' ⟨g1, g2⟩
        subst g1 g2
        exact ⟨j, by omega, rfl, j, by omega, by rw [w64] <;> omega, rfl, rfl⟩
      have hat : IntKind.wrap .u64 (a + IntKind.wrap .u64 (j : Int)) = a + j := by rw [wu64 (n := (j : Int)) (by omega) (by omega), wu64] <;> omega
      have hpage : IntKind.wrap .i64 (IntKind.wrap .u64 (Int.tdiv (a + j) 4096)) = (a + j) / 4096 := by
        rw [tdiv4096 (by omega), wu64 (by omega) (by omega), w64 (by omega) (by omega)]
      have hstep : le M (a + j) (n - j) = M (a + j) + 256 * le M (a + ((j + 1 : Nat) : Int)) (n - (j + 1)) := by
        rw [show n - j = (n - (j + 1)) + 1 by omega]
        simp only [le]
        rw [show a + (j : Int) + 1 = a + ((j + 1 : Nat) : Int) by omega]
      rw [hat, hpage, tmod4096 (by omega)]
      show aM (Addr.add ⟨r, 0, none⟩ 2) h' _
      rw [add_at]
      refine ld_M (i := 0) ho rfl rfl ?_
      refine lk_M (i := 2) ho rfl ?_
      rw [pm_lookup]
      have hmod : 0 ≤ (a + (j : Int)) % 4096 ∧ (a + (j : Int)) % 4096 < 4096 := by omega
      cases hp : pm.lookup ((a + j) / 4096) with
      | none =>
        refine ⟨none, rfl, bsel_f rfl ⟨rfl, ?_⟩⟩
        have h0 := ok.zero (a + j) (by omega) (lookup_none hp)
        rw [hstep, h0, wu64 (by omega) (by omega)]
        omega
      | some b =>
        refine ⟨some ⟨b, 0, none⟩, rfl, bsel_t rfl ?_⟩
        refine inB_in hmod.1 (by omega) ?_
        obtain ⟨q, hq1, hq2⟩ := pages_at (M := M) (lookup_mem hp)
        rw [add_at]
        refine ld_I (i := q + 3) (o := 0 + ((a + (j : Int)) % 4096).toNat * 1) ho hq2 (n := M (a + j)) ?_ ⟨rfl, ?_⟩
        · rw [Nat.zero_add, Nat.mul_one, page_at (by omega)]
          rw [show (a + (j : Int)) / 4096 * 4096 + (((a + (j : Int)) % 4096).toNat : Nat) = a + j by omega]
        · rw [hstep, bits_or_byte hb.1 (by omega) (ok.byte _).1 (ok.byte _).2]
    · have : m = 0 := by simp at c; omega
      subst this
      simpa using hk

theorem pm_put {pm : Pm} {f : Int} {b : Nat} (h : pm.lookup f = none) : putM (pmMap pm) f (.pointer (some ⟨b, 0, none⟩)) = pmMap (pm ++ [(f, b)]) := by
  induction pm with
  | nil => rfl
  | cons p pm ih =>
    simp only [List.lookup] at h
    split at h
    · cases h
    · rename_i g
      have g2 : ¬ p.1 = f := fun q => by simp [q] at g
      show putM ((p.1, _) :: pmMap pm) f _ = _
      simp only [putM, if_neg g2, ih h]
      rfl
theorem page_zero {f : Int} {pm : Pm} (ok : PmOK M pm) (hf : 0 ≤ f) (h : f ∉ pm.map (·.1)) : pageCells M f = List.replicate 4096 (.int .u8 0) := by
  refine List.eq_replicate_iff.2 ⟨by simp [pageCells], fun v hv => ?_⟩
  simp only [pageCells, List.mem_map, List.mem_range] at hv
  obtain ⟨j, hj, rfl⟩ := hv
  rw [ok.zero (f * 4096 + j) (by omega) (by rw [show (f * 4096 + (j : Int)) / 4096 = f by omega]; exact h)]
theorem own_spec {R : List SP} {s : Sl} {mb : Nat} {pm : Pm} {f : Int} {Q : Option Addr → AH → Prop} (h : Own (ramL r fr hs s mb M pm ++ R) A) (ok : PmOK M pm) (hf : 0 ≤ f)
    (hk : ∀ pm' b A', PmOK M pm' → (f, b) ∈ pm' → Own (ramL r fr hs s mb M pm' ++ R) A' → Q (some ⟨b, 0, none⟩) A') : ram_RAM_own_A (some ⟨r, 0, none⟩) f Q A := by
  unfold ram_RAM_own_A
  show aM (Addr.add ⟨r, 0, none⟩ 2) A _
  rw [add_at]
  refine ld_M (i := 0) h rfl rfl ?_
  refine lk_M (i := 2) h rfl ?_
  rw [pm_lookup]
  cases hp : pm.lookup f with
  | some b => exact ⟨some ⟨b, 0, none⟩, rfl, fun p h' => p = some ⟨b, 0, none⟩ ∧ h' = A, fun p h' ⟨e1, e2⟩ => by subst e1 e2; exact hk pm b _ ok (lookup_mem hp) h, ⟨rfl, rfl⟩⟩
  | none =>
    refine ⟨none, rfl, Q, fun _ _ q => q, ?_⟩
    refine bsel_t rfl ?_
    rw [← List.toArray_replicate]
    refine new_C h fun b A' h' => ?_
    show aM (Addr.add ⟨r, 0, none⟩ 2) A' _
    rw [add_at]
    refine ld_M (i := 1) h' rfl rfl ?_
    refine st_M (i := 3) h' rfl fun A2 h2 => ?_
    have hn := lookup_none hp
    refine hk (pm ++ [(f, b)]) b A2 ⟨?_, ok.byte, ?_⟩ (by simp) ?_
    · rw [List.map_append, List.nodup_append]
      refine ⟨ok.nodup, by simp, ?_⟩
      intro x hx y hy
      simp at hy
      subst hy
      exact fun q => hn (q ▸ hx)
    · intro a h0 h1
      exact ok.zero a h0 fun q => h1 (by simp at q ⊢; exact .inl q)
    · rw [pm_put hp] at h2
      rw [← page_zero ok hf hn] at h2
      refine h2.perm ?_
      show List.Perm (At b (pageCells M f) :: (_ :: _ :: _ :: (PagesAt M pm ++ R))) (_ :: _ :: _ :: (PagesAt M (pm ++ [(f, b)]) ++ R))
      have : PagesAt M (pm ++ [(f, b)]) ++ R = PagesAt M pm ++ At b (pageCells M f) :: R := by simp [PagesAt]
      rw [this]
      exact (List.perm_middle (l₁ := _ :: _ :: _ :: PagesAt M pm) (l₂ := R)).symm

/-- A memory in which bytes were stored. -/
def stM (M : Int → Int) (a : Int) (n : Nat) (x : Int) : Int → Int := fun c => if a ≤ c ∧ c < a + n then x / 2 ^ (8 * (c - a).toNat) % 256 else M c
def upM (M : Int → Int) (a v : Int) : Int → Int := fun c => if c = a then v else M c
theorem stM_succ {a x : Int} {j : Nat} : upM (stM M a j x) (a + j) (x / 2 ^ (8 * j) % 256) = stM M a (j + 1) x := by
  funext c
  unfold upM stM
  by_cases e : c = a + j
  · subst e
    rw [if_pos rfl, if_pos ⟨by omega, by omega⟩, show (a + (j : Int) - a).toNat = j by omega]
  · rw [if_neg e]
    by_cases g : a ≤ c ∧ c < a + j
    · rw [if_pos g, if_pos ⟨g.1, by omega⟩]
    · rw [if_neg g, if_neg (by omega)]
theorem pages_set {pm : Pm} {q : Nat} {f : Int} {b : Nat} {j : Nat} {v : Int} (nd : (pm.map (·.1)).Nodup) (hq : pm[q]? = some (f, b)) (hj : j < 4096) :
    (PagesAt M pm).set q (At b ((pageCells M f).set j (.int .u8 v))) = PagesAt (upM M (f * 4096 + j) v) pm := by
  apply List.ext_getElem?
  intro i
  have hql := (List.getElem?_eq_some_iff.1 hq).1
  rw [List.getElem?_set]
  by_cases e : q = i
  · subst e
    rw [page_set hj]
    simp only [if_true, PagesAt, List.length_map, hql, List.getElem?_map, hq, Option.map_some]
    rfl
  · rw [if_neg e]
    simp only [PagesAt, List.getElem?_map]
    cases hc : pm[i]? with
    | none => simp only [Option.map_none]
    | some p =>
      simp only [Option.map_some]
      have hne : p.1 ≠ f := by
        intro g
        have h1 : (pm.map (·.1))[i]? = some f := by simp [hc, g]
        have h2 : (pm.map (·.1))[q]? = some f := by simp [hq]
        obtain ⟨i1, e1⟩ := List.getElem?_eq_some_iff.1 h1
        obtain ⟨q1, e2⟩ := List.getElem?_eq_some_iff.1 h2
        have hp := List.pairwise_iff_getElem.1 nd
        rcases Nat.lt_trichotomy i q with g | g | g
        · exact hp i q i1 q1 g (by rw [e1, e2])
        · exact e g.symm
        · exact hp q i q1 i1 g (by rw [e1, e2])
      rw [show pageCells (upM M (f * 4096 + j) v) p.1 = pageCells M p.1 from page_other hj hne]
theorem PmOK.up {pm : Pm} (ok : PmOK M pm) {a v : Int} (hv : 0 ≤ v ∧ v < 256) (ha : a / 4096 ∈ pm.map (·.1)) : PmOK (upM M a v) pm where
  nodup := ok.nodup
  byte c := by
    unfold upM
    split
    · exact hv
    · exact ok.byte c
  zero c h0 h1 := by
    unfold upM
    rw [if_neg (fun (q : c = a) => h1 (by rw [q]; exact ha))]
    exact ok.zero c h0 h1

theorem Store_spec {R : List SP} {a x : Int} {n : Nat} {Q : Int → AH → Prop} (h : Own (RamS r fr hs M :: R) A) (hl : hs.length ≤ 64) (hf : 0 ≤ fr ∧ fr ≤ 1048576) (hz : n = 1 ∨ n = 2 ∨ n = 4 ∨ n = 8)
    (ha : 0 ≤ a ∧ a < 18446744073709551616) (hn : okA fr hs a n = false → Q 2 A) (hk : okA fr hs a n = true → ∀ A', Own (RamS r fr hs (stM M a n x) :: R) A' → Q 0 A') : ram_RAM_Store_A (some ⟨r, 0, none⟩) a n x Q A := by
  unfold ram_RAM_Store_A ram_RAM_Store_G
  refine check_spec (i := 0) h rfl hl hf (by omega) ha ?_
  cases hok : okA fr hs a n with
  | false => exact bsel_t rfl (hn hok)
  | true =>
    refine bsel_f rfl ?_
    have hle : a + n ≤ fr * 4096 := by simp [okA] at hok; omega
    refine ⟨fun i m h' => ∃ j : Nat, i = j ∧ j ≤ n ∧ m = n - j ∧ Own (RamS r fr hs (stM M a j x) :: R) h', ⟨n, 0, rfl, by omega, by omega, ?_⟩, ?_⟩
    · have : stM M a 0 x = M := by funext c; unfold stM; rw [if_neg (by omega)]
      rw [this]; exact h
    intro i m h' ⟨j, e1, e2, e3, ho⟩
    subst e1 e3
    refine bsel_in (fun c => ?_) fun c => ?_
    · have c : j < n := by simpa using c
      have h8 : IntKind.wrap .i64 (8 * (j : Int)) = 8 * j := w64 (by omega) (by omega)
      rw [h8]
      refine bsel_f (by simp; omega) ?_
      have hat : IntKind.wrap .u64 (a + IntKind.wrap .u64 (j : Int)) = a + j := by rw [wu64 (n := (j : Int)) (by omega) (by omega), wu64] <;> omega
      have hpage : IntKind.wrap .i64 (IntKind.wrap .u64 (Int.tdiv (a + j) 4096)) = (a + j) / 4096 := by
        rw [tdiv4096 (by omega), wu64 (by omega) (by omega), w64 (by omega) (by omega)]
      rw [hat, hpage, tmod4096 (by omega)]
      obtain ⟨s, ho⟩ := ho.ex
      obtain ⟨mb, ho⟩ := ho.ex
      obtain ⟨pm, ho⟩ := ho.ex
      obtain ⟨ok, ho⟩ := ho.pure
      refine own_spec ho.flat ok (by omega) fun pm' b A' ok' hb ho' => ?_
      obtain ⟨q, hq1, hq2⟩ := pages_at (M := stM M a j x) hb
      have hql := (List.getElem?_eq_some_iff.1 hq1).1
      refine inB_in (by omega) (by omega) ?_
      rw [add_at]
      have hv : IntKind.wrap .u8 (Int.fdiv x (2 ^ (min (Int.toNat (8 * (j : Int))) 64))) = x / 2 ^ (8 * j) % 256 := by
        rw [wu8, show min (Int.toNat (8 * (j : Int))) 64 = 8 * j by omega, Int.fdiv_eq_ediv_of_nonneg _ (Int.pow_nonneg (by omega))]
      rw [hv]
      have hi : (ramL r fr hs s mb (stM M a j x) pm' ++ R)[q + 3]? = some (At b (pageCells (stM M a j x) ((a + j) / 4096))) := by
        show (PagesAt (stM M a j x) pm' ++ R)[q]? = _
        rw [List.getElem?_append_left (by simp [PagesAt]; exact hql)]
        exact hq2
      refine st_C (i := q + 3) ho' hi ?_ rfl fun A2 h2 => ?_
      · rw [Nat.zero_add, Nat.mul_one, page_at (by omega)]; rfl
      refine ⟨n - (j + 1), by omega, j + 1, by rw [w64] <;> omega, by omega, rfl, ?_⟩
      rw [Nat.zero_add, Nat.mul_one] at h2
      have hset : (ramL r fr hs s mb (stM M a j x) pm' ++ R).set (q + 3) (At b ((pageCells (stM M a j x) ((a + j) / 4096)).set ((a + (j : Int)) % 4096).toNat (.int .u8 (x / 2 ^ (8 * j) % 256)))) = ramL r fr hs s mb (stM M a (j + 1) x) pm' ++ R := by
        show _ :: _ :: _ :: (PagesAt (stM M a j x) pm' ++ R).set q _ = _ :: _ :: _ :: (PagesAt (stM M a (j + 1) x) pm' ++ R)
        rw [List.set_append_left _ _ (by simp [PagesAt]; exact hql), pages_set ok'.nodup hq1 (by omega)]
        rw [show (a + (j : Int)) / 4096 * 4096 + (((a + (j : Int)) % 4096).toNat : Nat) = a + j by omega, stM_succ]
      rw [hset] at h2
      have ok2 : PmOK (stM M a (j + 1) x) pm' := by
        rw [← stM_succ]
        exact ok'.up (by omega) (List.mem_map.2 ⟨_, hb, rfl⟩)
      refine Own.imp (P := Own (ramL r fr hs s mb (stM M a (j + 1) x) pm')) (fun B hB => ⟨s, mb, pm', ok2, hB⟩) ?_
      exact Own.app h2
    · have : j = n := by simp at c; omega
      subst this
      exact hk hok _ ho
end Go.Dn
/- Entries and addresses: what the program's functions and the document's answer. -/
namespace Go.Dn

def U64 (x : Int) : Prop := 0 ≤ x ∧ x < 18446744073709551616
def partZ (x : Int) (k : Nat) : Int := x / 2 ^ k % 512
def frameZ (x : Int) : Int := x / 4096 % 1048576
def canonZ (x : Int) : Bool := (x / 2 ^ 47 == 0) || (x / 2 ^ 47 == 131071)
def resvd (x : Int) (level : Int) : Bool := bitZ x 0 && ((x / 2 ^ 32 % 1048576 != 0) || if level ≥ 3 then bitZ x 7 else (level == 2 && bitZ x 7 && (x / 2 ^ 12 % 512 != 0)))

variable {A : AH} {l : List SP}
theorem Canonical_spec {x : Int} {Q : Bool → AH → Prop} (hk : Q (canonZ x) A) : pte_Canonical_A x Q A := by
  unfold pte_Canonical_A
  rw [shr_eq]
  unfold canonZ at hk
  refine bsel_in (fun c => ?_) fun c => ?_
  · rw [c] at hk; exact hk
  · rw [c] at hk; exact hk
theorem bit1 {x : Int} (k : Nat) (hx : U64 x) : (bits .and .u64 (x / 2 ^ k) 1 == (1 : Int)) = bitZ x k := by
  have := shr_bound k hx.1 hx.2
  rw [and1 this.1 this.2]
  rfl
theorem bit0 {x : Int} (hx : U64 x) : (bits .and .u64 x 1 == (0 : Int)) = !bitZ x 0 := by
  rw [and1 hx.1 hx.2]
  unfold bitZ
  rcases Int.emod_two_eq x with h | h <;> simp [h]
theorem Reserved_spec {x lv : Int} {Q : Bool → AH → Prop} (hx : U64 x) (hk : Q (resvd x lv) A) : pte_Reserved_A x lv Q A := by
  unfold pte_Reserved_A
  simp only [shr_eq]
  rw [bit0 hx, bit1 7 hx]
  have h32 := shr_bound 32 hx.1 hx.2
  have h12 := shr_bound 12 hx.1 hx.2
  rw [and20 h32.1 h32.2, and511 h12.1 h12.2]
  unfold resvd at hk
  generalize (x / 2 ^ 32 % 1048576 != 0) = u at *
  generalize (x / 2 ^ 12 % 512 != 0) = v at *
  refine bsel_in (fun c => ?_) fun c => ?_
  · simp at c; simpa [c] using hk
  simp at c
  refine bsel_in (fun c2 => ?_) fun c2 => ?_
  · simpa [c, c2] using hk
  refine bsel_in (fun c3 => ?_) fun c3 => ?_
  · simp at c3; simpa [c, c2, c3] using hk
  simp at c3
  have c3' : ¬ (3 ≤ lv) := by omega
  refine bsel_in (fun c4 => ?_) fun c4 => ?_
  · refine bsel_in (fun c5 => ?_) fun c5 => ?_
    · simpa [c, c2, c3', c4, c5] using hk
    · simpa [c, c2, c3', c4, c5] using hk
  · simpa [c, c2, c3', c4] using hk
def splitCells (x : Int) (j : Nat) : List Value := (List.range 4).map fun i => .int .i64 (if i < j then partZ x (39 - 9 * i) else 0)
theorem Split_spec {x : Int} {Q : Int → Int → Int → Int → Int → AH → Prop} (hx : U64 x) (h : Own l A) (hk : ∀ A', Own l A' → Q (partZ x 39) (partZ x 30) (partZ x 21) (partZ x 12) (x % 4096) A') : pte_Split_A x Q A := by
  unfold pte_Split_A
  refine new_C (cs := splitCells x 0) h fun b A1 h1 => ?_
  refine ⟨fun i m h' => ∃ j : Nat, i = j ∧ j ≤ 4 ∧ m = 4 - j ∧ Own (At b (splitCells x j) :: l) h', ⟨4, 0, rfl, by omega, rfl, h1⟩, ?_⟩
  intro i m h' ⟨j, e1, e2, e3, ho⟩
  subst e1 e3
  refine bsel_in (fun c => ?_) fun c => ?_
  · have c : j < 4 := by simp at c; omega
    have h9 : IntKind.wrap .i64 (39 - IntKind.wrap .i64 (9 * (j : Int))) = ((39 - 9 * j : Nat) : Int) := by
      rw [w64 (n := 9 * (j : Int)) (by omega) (by omega), w64 (by omega) (by omega)]; omega
    rw [h9]
    refine bsel_f (by simp) ?_
    refine inB_in (by omega) (by omega) ?_
    rw [add_at]
    have hb := shr_bound (39 - 9 * j) hx.1 hx.2
    have hv : IntKind.wrap .i64 (bits .and .u64 (Int.fdiv x (2 ^ (min (Int.toNat ((39 - 9 * j : Nat) : Int)) 64))) 511) = partZ x (39 - 9 * j) := by
      rw [shr_eq, show min (Int.toNat ((39 - 9 * j : Nat) : Int)) 64 = 39 - 9 * j by omega, and511 hb.1 hb.2]
      exact w64 (by omega) (by omega)
    rw [hv]
    refine st_C (i := 0) ho rfl ?_ rfl fun A2 h2 => ?_
    · simp [splitCells]; omega
    refine ⟨4 - (j + 1), by omega, j + 1, by rw [w64] <;> omega, by omega, rfl, ?_⟩
    have hs : (splitCells x j).set (0 + Int.toNat (j : Int) * 1) (.int .i64 (partZ x (39 - 9 * j))) = splitCells x (j + 1) := by
      obtain rfl | rfl | rfl | rfl : j = 0 ∨ j = 1 ∨ j = 2 ∨ j = 3 := by omega
      all_goals rfl
    rw [hs] at h2
    exact h2
  · have : j = 4 := by simp at c; omega
    subst this
    rw [and4095 hx.1 hx.2, w64 (n := x % 4096) (by omega) (by omega)]
    simp only [add_at]
    refine ld_I (i := 0) ho rfl rfl ?_
    refine ld_I (i := 0) ho rfl rfl ?_
    refine ld_I (i := 0) ho rfl rfl ?_
    refine ld_I (i := 0) ho rfl rfl ?_
    exact hk _ ho.tail
def placeN : Nat → Nat | 0 => 0 | 1 => 1 | 2 => 2 | 3 => 5 | 4 => 6 | 5 => 7 | 6 => 8 | _ => 63
def entryCells (x : Int) (j : Nat) : List Value := ((List.range 8).map fun i => .bool (decide (i < j) && bitZ x (placeN i))) ++ [.int .i64 (frameZ x)]
theorem Unpack_spec {x : Int} {Q : Bool → Bool → Bool → Bool → Bool → Bool → Bool → Bool → Int → AH → Prop} (hx : U64 x) (h : Own l A)
    (hk : ∀ A', Own l A' → Q (bitZ x 0) (bitZ x 1) (bitZ x 2) (bitZ x 5) (bitZ x 6) (bitZ x 7) (bitZ x 8) (bitZ x 63) (frameZ x) A') : pte_Unpack_A x Q A := by
  unfold pte_Unpack_A pte_Unpack_G
  refine new_C (cs := [.bool false, .bool false, .bool false, .bool false, .bool false, .bool false, .bool false, .bool false, .int .i64 0]) h fun b A1 h1 => ?_
  have hb := shr_bound 12 hx.1 hx.2
  rw [shr_eq, and20 hb.1 hb.2, w64 (n := x / 2 ^ 12 % 1048576) (by omega) (by omega)]
  simp only [add_at]
  iterate 9 refine st_C (i := 0) h1 rfl rfl rfl fun A1 h1 => ?_
  unfold pte_Entry_flags_A
  simp only [onSome, add_at]
  refine ⟨fun i m h' => ∃ j : Nat, i = j ∧ j ≤ 8 ∧ m = 8 - j ∧ Own (At b (entryCells x j) :: l) h', ⟨8, 0, rfl, by omega, rfl, h1⟩, ?_⟩
  intro i m h' ⟨j, e1, e2, e3, ho⟩
  subst e1 e3
  refine bsel_in (fun c => ?_) fun c => ?_
  · have c : j < 8 := by simp at c; omega
    refine inB_in (by omega) (by omega) ?_
    have hp : ([.pointer (some ⟨b, 0, none⟩), .pointer (some ⟨b, 0 + 1, none⟩), .pointer (some ⟨b, 0 + 2, none⟩), .pointer (some ⟨b, 0 + 3, none⟩), .pointer (some ⟨b, 0 + 4, none⟩), .pointer (some ⟨b, 0 + 5, none⟩), .pointer (some ⟨b, 0 + 6, none⟩), .pointer (some ⟨b, 0 + 7, none⟩)] : List Value)[Int.toNat (j : Int)]? = some (.pointer (some ⟨b, j, none⟩)) := by
      obtain rfl | rfl | rfl | rfl | rfl | rfl | rfl | rfl : j = 0 ∨ j = 1 ∨ j = 2 ∨ j = 3 ∨ j = 4 ∨ j = 5 ∨ j = 6 ∨ j = 7 := by omega
      all_goals rfl
    refine ⟨_, hp, ?_⟩
    unfold pte_places_A
    refine inB_in (by omega) (by omega) ?_
    have hq : ([.int .i64 0, .int .i64 1, .int .i64 2, .int .i64 5, .int .i64 6, .int .i64 7, .int .i64 8, .int .i64 63] : List Value)[Int.toNat (j : Int)]? = some (.int .i64 (placeN j)) := by
      obtain rfl | rfl | rfl | rfl | rfl | rfl | rfl | rfl : j = 0 ∨ j = 1 ∨ j = 2 ∨ j = 3 ∨ j = 4 ∨ j = 5 ∨ j = 6 ∨ j = 7 := by omega
      all_goals rfl
    refine ⟨_, hq, bsel_f (by simp) ?_⟩
    have hpl : placeN j ≤ 63 := by
      obtain rfl | rfl | rfl | rfl | rfl | rfl | rfl | rfl : j = 0 ∨ j = 1 ∨ j = 2 ∨ j = 3 ∨ j = 4 ∨ j = 5 ∨ j = 6 ∨ j = 7 := by omega
      all_goals decide
    rw [shr_eq, show min (Int.toNat (placeN j : Int)) 64 = placeN j by omega, bit1 _ hx]
    refine st_C (i := 0) ho rfl ?_ rfl fun A2 h2 => ?_
    · simp [entryCells]; omega
    refine ⟨8 - (j + 1), by omega, j + 1, by rw [w64] <;> omega, by omega, rfl, ?_⟩
    have hs : (entryCells x j).set j (.bool (bitZ x (placeN j))) = entryCells x (j + 1) := by
      obtain rfl | rfl | rfl | rfl | rfl | rfl | rfl | rfl : j = 0 ∨ j = 1 ∨ j = 2 ∨ j = 3 ∨ j = 4 ∨ j = 5 ∨ j = 6 ∨ j = 7 := by omega
      all_goals rfl
    rw [hs] at h2
    exact h2
  · have : j = 8 := by simp at c; omega
    subst this
    iterate 8 refine ld_B (i := 0) ho rfl rfl ?_
    refine ld_I (i := 0) ho rfl rfl ?_
    exact hk _ ho.tail

/- The document's. -/
theorem mod_pow_succ {x : Int} (n : Nat) : x % 2 ^ (n + 1) = x % 2 ^ n + 2 ^ n * (x / 2 ^ n % 2) := by
  have hp : (0 : Int) < 2 ^ n := Int.pow_pos (by omega)
  rw [Int.pow_succ]
  have h1 := Int.mul_ediv_add_emod x (2 ^ n)
  have h2 := Int.mul_ediv_add_emod (x / 2 ^ n) 2
  have h3 := Int.emod_nonneg x (show (2 : Int) ^ n ≠ 0 by omega)
  have h4 := Int.emod_lt_of_pos x hp
  have h5 := Int.emod_two_eq (x / 2 ^ n)
  have hx : x = (2 ^ n * 2) * (x / 2 ^ n / 2) + (x % 2 ^ n + 2 ^ n * (x / 2 ^ n % 2)) := by
    rw [Int.mul_assoc, ← Int.add_assoc, Int.add_right_comm, ← Int.mul_add, h2, h1]
  have hb : 0 ≤ x % 2 ^ n + 2 ^ n * (x / 2 ^ n % 2) ∧ x % 2 ^ n + 2 ^ n * (x / 2 ^ n % 2) < 2 ^ n * 2 := by
    rcases h5 with h5 | h5 <;> rw [h5] <;> omega
  conv => lhs; rw [hx]
  rw [Int.add_comm, Int.add_mul_emod_self_left]
  exact Int.emod_eq_of_lt hb.1 hb.2
theorem bitZ_val (x : Int) (k : Nat) : (if bitZ x k then 1 else 0 : Int) = x / 2 ^ k % 2 := by
  unfold bitZ
  rcases Int.emod_two_eq (x / 2 ^ k) with h | h <;> simp [h]
end Go.Dn
/- A memory by the place of its part in a list. -/
namespace Go.Dn

variable {A : AH} {l : List SP} {r : Nat} {fr : Int} {hs : List (Int × Int)} {M : Int → Int}
theorem RamS.byte {i : Nat} (h : Own l A) (e : l[i]? = some (RamS r fr hs M)) : ∀ a, 0 ≤ M a ∧ M a < 256 := by
  obtain ⟨s, mb, pm, ok, _⟩ := RamS.open h e
  exact ok.byte
theorem Store_at {i : Nat} {a x : Int} {n : Nat} {Q : Int → AH → Prop} (h : Own l A) (e : l[i]? = some (RamS r fr hs M)) (hl : hs.length ≤ 64) (hf : 0 ≤ fr ∧ fr ≤ 1048576) (hz : n = 1 ∨ n = 2 ∨ n = 4 ∨ n = 8)
    (ha : 0 ≤ a ∧ a < 18446744073709551616) (hn : okA fr hs a n = false → Q 2 A) (hk : okA fr hs a n = true → ∀ A', Own (l.set i (RamS r fr hs (stM M a n x))) A' → Q 0 A') : ram_RAM_Store_A (some ⟨r, 0, none⟩) a n x Q A :=
  Store_spec (h.pick i e) hl hf hz ha hn fun ok A' h' => hk ok A' (Own.back i e h')
theorem word_u64 {i : Nat} (h : Own l A) (e : l[i]? = some (RamS r fr hs M)) (a : Int) : U64 (le M a 8) := by
  have := le_bound (RamS.byte h e) 8 a
  exact ⟨this.1, this.2⟩
theorem le_snoc (M : Int → Int) : ∀ (n : Nat) (a : Int), le M a (n + 1) = le M a n + M (a + n) * 256 ^ n
  | 0, a => by simp [le]
  | n + 1, a => by
    show M a + 256 * le M (a + 1) (n + 1) = (M a + 256 * le M (a + 1) n) + M (a + ((n + 1 : Nat) : Int)) * 256 ^ (n + 1)
    rw [le_snoc M n (a + 1), Int.pow_succ, show a + 1 + (n : Int) = a + ((n + 1 : Nat) : Int) by omega]
    rw [Int.mul_add, Int.add_assoc, Int.mul_left_comm, Int.mul_comm (256 : Int) (256 ^ n)]
theorem le_congr {M N : Int → Int} : ∀ (n : Nat) (a : Int), (∀ c, a ≤ c → c < a + n → M c = N c) → le M a n = le N a n
  | 0, _, _ => rfl
  | n + 1, a, h => by
    simp only [le]
    rw [h a (by omega) (by omega), le_congr n (a + 1) fun c h1 h2 => h c (by omega) (by omega)]
/-- What was stored is there. -/
theorem le_bytes (x : Int) : ∀ (n k : Nat) (N : Int → Int) (a : Int), (∀ j : Nat, j < n → N (a + j) = x / 2 ^ (8 * (k + j)) % 256) → le N a n = x / 2 ^ (8 * k) % 256 ^ n
  | 0, k, N, a, h => by simp [le, Int.emod_one]
  | n + 1, k, N, a, h => by
    simp only [le]
    have h0 := h 0 (by omega)
    rw [Int.natCast_zero, Int.add_zero, Nat.add_zero] at h0
    rw [h0, le_bytes x n (k + 1) N (a + 1) fun j hj => by rw [← show a + ((j + 1 : Nat) : Int) = a + 1 + j by omega, h (j + 1) (by omega), show k + (j + 1) = k + 1 + j by omega]]
    rw [show 8 * (k + 1) = 8 * k + 8 by omega, Int.pow_add, ← Int.ediv_ediv_of_nonneg (Int.pow_nonneg (by omega))]
    generalize x / 2 ^ (8 * k) = z
    rw [Int.pow_succ]
    show z % 256 + 256 * (z / 256 % 256 ^ n) = z % (256 ^ n * 256)
    have h3 : z / 256 % 256 ^ n = z / 256 - 256 ^ n * (z / 256 / 256 ^ n) := by
      have := Int.mul_ediv_add_emod (z / 256) (256 ^ n); omega
    have h4 : z % (256 ^ n * 256) = z - 256 ^ n * 256 * (z / (256 ^ n * 256)) := by
      have := Int.mul_ediv_add_emod z (256 ^ n * 256); omega
    rw [h3, h4, Int.ediv_ediv_of_nonneg (by omega), Int.mul_comm 256 (256 ^ n : Int)]
    generalize z / (256 ^ n * 256) = w
    have : 256 ^ n * 256 * w = 256 * (256 ^ n * w) := by rw [Int.mul_comm (256 ^ n : Int) 256, Int.mul_assoc]
    omega
theorem le_same (M : Int → Int) (a x : Int) (n : Nat) (hx : 0 ≤ x) (hx2 : x < 256 ^ n) : le (stM M a n x) a n = x := by
  have := le_bytes x n 0 (stM M a n x) a fun j hj => by
    unfold stM
    rw [if_pos ⟨by omega, by omega⟩, show (a + (j : Int) - a).toNat = 0 + j by omega]
  rw [this]
  simp
  exact Int.emod_eq_of_lt hx hx2
theorem le_apart (M : Int → Int) (a b x : Int) (n m : Nat) (h : b + m ≤ a ∨ a + n ≤ b) : le (stM M a n x) b m = le M b m :=
  le_congr m b fun c h1 h2 => by
    unfold stM
    rw [if_neg (by omega)]
theorem st_same {M : Int → Int} (hb : ∀ a, 0 ≤ M a ∧ M a < 256) : ∀ (n : Nat) (a : Int), stM M a n (le M a n) = M := by
  intro n a
  funext c
  unfold stM
  by_cases g : a ≤ c ∧ c < a + n
  · rw [if_pos g]
    obtain ⟨j, rfl⟩ : ∃ j : Nat, c = a + j := ⟨(c - a).toNat, by omega⟩
    rw [show (a + (j : Int) - a).toNat = j by omega]
    have key : ∀ (j n : Nat) (a : Int), j < n → le M a n / 2 ^ (8 * j) % 256 = M (a + j) := by
      intro j
      induction j with
      | zero =>
        intro n a hn
        obtain ⟨n, rfl⟩ : ∃ k, n = k + 1 := ⟨n - 1, by omega⟩
        have := hb a
        simp only [le]
        simp
        omega
      | succ j ih =>
        intro n a hn
        obtain ⟨n, rfl⟩ : ∃ k, n = k + 1 := ⟨n - 1, by omega⟩
        have h1 := hb a
        rw [show 8 * (j + 1) = 8 + 8 * j by omega, Int.pow_add, ← Int.ediv_ediv_of_nonneg (by simp)]
        have : le M a (n + 1) / 2 ^ 8 = le M (a + 1) n := by
          simp only [le]
          show (M a + 256 * le M (a + 1) n) / 256 = _
          omega
        rw [this, ih n (a + 1) (by omega), show a + 1 + (j : Int) = a + ((j + 1 : Nat) : Int) by omega]
    exact key j n a (by omega)
  · rw [if_neg g]

/-- The document's memory. -/
theorem stM_byte {a x : Int} {n : Nat} (hb : ∀ a, 0 ≤ M a ∧ M a < 256) : ∀ c, 0 ≤ stM M a n x c ∧ stM M a n x c < 256 := by
  intro c
  unfold stM
  split
  · omega
  · exact hb c
end Go.Dn
/- Slices of one's own: what an append makes of them. -/
namespace Go.Dn

/-- A slice of one's own: its cells and what room is left behind them. -/
def SlO (s : Sl) (sz : Nat) (cs : List Value) : SP := fun B => (s.len * sz = cs.length ∧ s.len ≤ s.cap) ∧
  (s.cap = 0 ∨ ∃ b rest, s.a = some ⟨b, 0, none⟩ ∧ (cs ++ rest).length = s.cap * sz ∧ At b (cs ++ rest) B)
theorem SlO.nil {sz : Nat} {B : AH} : SlO Sl.nil sz [] B := ⟨⟨by simp [Sl.nil], Nat.le_refl _⟩, .inl rfl⟩
theorem SlO.look {s : Sl} {sz : Nat} {cs : List Value} {B : AH} (h : SlO s sz cs B) : SlAt s sz cs B := by
  obtain ⟨⟨h1, h2⟩, h3⟩ := h
  refine ⟨h1, h2, fun hne => ?_⟩
  rcases h3 with h3 | ⟨b, rest, h3, h4, h5⟩
  · have : s.len = 0 := by omega
    rw [this] at h1
    exact absurd (List.length_eq_zero_iff.1 (by omega)) hne
  · exact ⟨b, [], rest, h3, by simpa using h5⟩
variable {A : AH} {l R : List SP}
theorem stL_spec {b o : Nat} : ∀ (vs : List Value) (n : Nat) (A : AH) (pre mid post : List Value) (K : AP), Own (At b (pre ++ mid ++ post) :: R) A → mid.length = vs.length → o + n = pre.length → (∀ v ∈ vs, v.oneCell' = true) →
    (∀ A', Own (At b (pre ++ vs ++ post) :: R) A' → K A') → aStL vs ⟨b, o, none⟩ n A K
  | [], n, A, pre, mid, post, K, h, hm, ho, hv, hk => by
    have : mid = [] := List.length_eq_zero_iff.1 hm
    subst this
    exact hk A h
  | v :: vs, n, A, pre, mid, post, K, h, hm, ho, hv, hk => by
    cases mid with
    | nil => simp at hm
    | cons m mid =>
      simp at hm
      show aC (Addr.add ⟨b, o, none⟩ n) v A _
      rw [add_at]
      refine st_C (i := 0) h rfl ?_ (hv v (by simp)) fun A' h' => ?_
      · rw [ho]; simp
      have e : (pre ++ m :: mid ++ post).set (o + n) v = (pre ++ [v]) ++ mid ++ post := by
        rw [ho, List.append_assoc, List.set_append_right _ _ (Nat.le_refl _)]
        simp
      rw [e] at h'
      refine stL_spec vs (n + 1) A' (pre ++ [v]) mid post K h' hm (by simp; omega) (fun w hw => hv w (by simp [hw])) fun A2 h2 => hk A2 ?_
      simpa using h2
theorem rowA_of {s : Sl} {sz : Nat} {cs : List Value} {B : AH} (h : SlAt s sz cs B) (u : Sub B A) (hn : s.a = none → cs = []) : rowA A s.a (s.len * sz) cs := by
  cases hs : s.a with
  | none => exact hn hs
  | some a =>
    refine ⟨h.1.symm, fun i hi => ?_⟩
    rw [h.1] at hi
    obtain ⟨b, o, h1, h2⟩ := h.cell u (j := i) (v := cs[i]) (by simp [hi])
    rw [hs] at h1
    cases h1
    exact ⟨cs[i], by simp [hi], by rw [add_at]; exact h2⟩
theorem zeroCells_len {z : Array Value} {n : Nat} : (Builtin.zeroCells z n).size = n * z.size := by simp [Builtin.zeroCells]
theorem ap_head {s x : Sl} {sz bytes t i : Nat} {zc : Array Value} {c1 c2 : List Value} {K : Sl → AP} (h : Own (SlO s sz c1 :: R) A) (e : R[i]? = some (SlAt x sz c2)) (hx : x.a = none → c2 = []) (hs : s.a = none → c1 = [])
    (hz : zc.size = sz) (hv : ∀ v ∈ c2, v.oneCell' = true) (hlim : (s.len + x.len) * bytes ≤ 140737488355328 ∧ s.len + x.len ≤ 9223372036854775807)
    (hk : ∀ s' A', s'.len = s.len + x.len → (s'.a = none → c1 ++ c2 = []) → Own (SlO s' sz (c1 ++ c2) :: R) A' → K s' A') : apA sz bytes zc t s x A K := by
  obtain ⟨Bx, ux, hbx⟩ := Own.get (l := SlO s sz c1 :: R) (i := i + 1) (by simpa using e) h
  obtain ⟨Bs, us, hbs⟩ := h.sat
  refine ⟨c2, rowA_of hbx ux hx, fun hle => ?_, fun hlt => ?_⟩
  · have hl1 := hbs.1.1
    have hl2 := hbx.1
    obtain ⟨hp, h2⟩ := h.pure
    rcases Nat.eq_zero_or_pos s.cap with g | g
    · -- nothing there and nothing to append
      have h0 : s.len = 0 := by omega
      have h1 : x.len = 0 := by omega
      rw [h0] at hl1
      rw [h1] at hl2
      have e1 : c1 = [] := List.length_eq_zero_iff.1 (by omega)
      have e2 : c2 = [] := List.length_eq_zero_iff.1 (by omega)
      subst e1 e2
      have hst : aStR s.a (s.len * sz) [] A (K ⟨s.a, s.len + x.len, s.cap⟩) ↔ K ⟨s.a, s.len + x.len, s.cap⟩ A := by
        cases s.a <;> exact Iff.rfl
      rw [hst]
      refine hk _ _ rfl (fun _ => rfl) ?_
      exact Own.imp (P := SlO s sz []) (fun B hB => ⟨⟨by simp [h0, h1], by omega⟩, .inl g⟩) h
    · have h3 : Own ((fun B => ∃ b rest, s.a = some ⟨b, 0, none⟩ ∧ (c1 ++ rest).length = s.cap * sz ∧ At b (c1 ++ rest) B) :: R) A := h2.imp fun B hB => by
        rcases hB with hB | hB
        · omega
        · exact hB
      obtain ⟨b, h3⟩ := h3.ex
      obtain ⟨rest, h3⟩ := h3.ex
      obtain ⟨ha, h3⟩ := h3.pure
      obtain ⟨hc, h3⟩ := h3.pure
      rw [ha]
      show aStL c2 (Addr.add ⟨b, 0, none⟩ (s.len * sz)) 0 A _
      rw [add_at]
      have hroom : c2.length ≤ rest.length := by
        rw [List.length_append] at hc
        have : (s.len + x.len) * sz ≤ s.cap * sz := Nat.mul_le_mul_right _ hle
        rw [Nat.add_mul] at this
        omega
      have hsplit : c1 ++ rest = c1 ++ rest.take c2.length ++ rest.drop c2.length := by rw [List.append_assoc, List.take_append_drop]
      rw [hsplit] at h3
      refine stL_spec c2 0 A c1 (rest.take c2.length) (rest.drop c2.length) _ h3 (by simp; omega) (by simp; omega) hv fun A' h' => ?_
      refine hk _ _ rfl (fun q => by cases q) ?_
      refine Own.imp (fun B hB => ⟨⟨?_, hle⟩, .inr ⟨b, rest.drop c2.length, rfl, ?_, hB⟩⟩) h'
      · rw [Nat.add_mul, List.length_append]; omega
      · rw [← hc]; simp; omega
  · have hl1 := hbs.1.1
    have hl2 := hbx.1
    refine ⟨c1, rowA_of hbs.look us hs, hlim.2, growslice_fits hlt hlim.1, fun cap hcap => ?_⟩
    intro b hb
    have hsz := zeroCells_len (z := zc) (n := cap - (s.len + x.len))
    refine hk _ _ rfl (fun q => by cases q) ?_
    refine Own.new (o := _) (h.tail) hb fun B hB => ⟨⟨?_, hcap⟩, .inr ⟨b, (Builtin.zeroCells zc (cap - (s.len + x.len))).toList, rfl, ?_, t, ?_⟩⟩
    · rw [Nat.add_mul, List.length_append]; omega
    · simp only [List.length_append, Array.length_toList]
      rw [hsz, hz, ← hl1, ← hl2, ← Nat.add_mul, ← Nat.add_mul]
      congr 1; omega
    · rw [hB]
      congr 2
      apply Array.ext'
      simp
end Go.Dn
/- Walks through tables. -/
namespace Go.Dn

def codeZ (aw au af : Bool) : Int := (if aw then 2 else 0) + (if au then 4 else 0) + (if af then 16 else 0)
def mayZ (w u x aw au af : Bool) : Bool := !(aw && !w) && !(au && !u) && !(af && !x)
inductive WOut where
  | err (e : Int)
  | fault (code : Int)
  | ok (frame : Int) (w u x g lg d : Bool) (places : List Int)
def placeZ (t a : Int) (lv : Nat) : Int := t * 4096 + 8 * partZ a (12 + 9 * lv)
def walkL (fr : Int) (hs : List (Int × Int)) (M : Int → Int) (a : Int) (aw au af : Bool) : Nat → Int → Bool → Bool → Bool → List Int → WOut
  | 0, _, _, _, _, _ => .err 0
  | lv + 1, t, w, u, x, ps =>
    if hasF fr hs t = false then .err 2
    else if bitZ (le M (placeZ t a lv) 8) 0 = false then .fault (codeZ aw au af)
    else if resvd (le M (placeZ t a lv) 8) ((lv : Int) + 1) = true then .fault (9 + codeZ aw au af)
    else if lv = 0 ∨ (lv = 1 ∧ bitZ (le M (placeZ t a lv) 8) 7 = true) then
      if mayZ (w && bitZ (le M (placeZ t a lv) 8) 1) (u && bitZ (le M (placeZ t a lv) 8) 2) (x && !bitZ (le M (placeZ t a lv) 8) 63) aw au af = true then
        .ok (if lv = 1 then frameZ (le M (placeZ t a lv) 8) + partZ a 12 else frameZ (le M (placeZ t a lv) 8)) (w && bitZ (le M (placeZ t a lv) 8) 1) (u && bitZ (le M (placeZ t a lv) 8) 2) (x && !bitZ (le M (placeZ t a lv) 8) 63)
          (bitZ (le M (placeZ t a lv) 8) 8) (lv == 1) (bitZ (le M (placeZ t a lv) 8) 6 || aw) (ps ++ [placeZ t a lv])
      else .fault (1 + codeZ aw au af)
    else walkL fr hs M a aw au af lv (frameZ (le M (placeZ t a lv) 8)) (w && bitZ (le M (placeZ t a lv) 8) 1) (u && bitZ (le M (placeZ t a lv) 8) 2) (x && !bitZ (le M (placeZ t a lv) 8) 63) (ps ++ [placeZ t a lv])
def or5 (x : Int) : Int := if bitZ x 5 then x else x + 32
def or6 (x : Int) : Int := if bitZ x 6 then x else x + 64
def markL (M : Int → Int) (wr : Bool) : List Int → (Int → Int)
  | [] => M
  | p :: ps => markL (stM M p 8 (if wr && ps.isEmpty then or6 (or5 (le M p 8)) else or5 (le M p 8))) wr ps
def walkZ (fr : Int) (hs : List (Int × Int)) (M : Int → Int) (root a : Int) (aw au af : Bool) : WOut :=
  if canonZ a = false then .err 1 else if hasF fr hs root = false then .err 2 else walkL fr hs M a aw au af 4 root true true true []

variable {A : AH} {l : List SP} {r : Nat} {fr : Int} {hs : List (Int × Int)} {M : Int → Int}
theorem May_spec {w u x aw au af : Bool} {Q : Bool → AH → Prop} (hk : Q (mayZ w u x aw au af) A) : walk_May_A w u x aw au af Q A := by
  unfold walk_May_A
  cases w <;> cases u <;> cases x <;> cases aw <;> cases au <;> cases af <;> exact hk
def wcell (r : Nat) (a : Int) (aw au af w u x : Bool) : List Value := [.pointer (some ⟨r, 0, none⟩), .int .u64 a, .bool aw, .bool au, .bool af, .bool w, .bool u, .bool x]
theorem fault_spec {b j : Nat} {a c : Int} {aw au af w u x : Bool} {Q : AH → Prop} {Kp : Value → AH → Prop} (hc : c = 0 ∨ c = 1 ∨ c = 9) (h : Own l A) (e : l[j]? = some (At b (wcell r a aw au af w u x)))
    (hk : Kp (.iface ty_walk_stop (.agg #[.int .u64 a, .int .i64 (c + codeZ aw au af), .int .i64 9])) A) : walk_walker_fault_A (some ⟨b, 0, none⟩) c Q Kp A := by
  unfold walk_walker_fault_A
  refine ⟨fun c1 h1 => h1 = A ∧ c1 = c + (if aw then 2 else 0), ?_, ?_⟩
  · intro c1 h1 ⟨e1, e2⟩
    subst e1
    refine ⟨fun c2 h2 => h2 = h1 ∧ c2 = c1 + (if au then 4 else 0), ?_, ?_⟩
    · intro c2 h2 ⟨e3, e4⟩
      subst e3
      refine ⟨fun c3 h3 => h3 = h2 ∧ c3 = c2 + (if af then 16 else 0), ?_, ?_⟩
      · intro c3 h3 ⟨e5, e6⟩
        subst e5 e6 e4 e2
        refine ld_I (i := j) h e rfl ?_
        have : c + codeZ aw au af = c + (if aw then 2 else 0) + (if au then 4 else 0) + (if af then 16 else 0) := by unfold codeZ; omega
        rw [this] at hk
        exact hk
      · refine ld_B (i := j) h e rfl ?_
        cases af
        · exact ⟨rfl, by simp⟩
        · refine ⟨rfl, ?_⟩
          subst e4 e2
          rcases hc with rfl | rfl | rfl <;> cases aw <;> cases au <;> decide
    · refine ld_B (i := j) h e rfl ?_
      cases au
      · exact ⟨rfl, by simp⟩
      · refine ⟨rfl, ?_⟩
        subst e2
        rcases hc with rfl | rfl | rfl <;> cases aw <;> decide
  · refine ld_B (i := j) h e rfl ?_
    cases aw
    · exact ⟨rfl, by simp⟩
    · refine ⟨rfl, ?_⟩
      rcases hc with rfl | rfl | rfl <;> decide
theorem okA_word {t : Int} {at_ : Int} (h0 : 0 ≤ at_ ∧ at_ < 512) : okA fr hs (t * 4096 + 8 * at_) 8 = hasF fr hs t := by
  have h1 : (t * 4096 + 8 * at_) / 4096 = t := by omega
  have h2 : (t * 4096 + 8 * at_ + 8 - 1) / 4096 = t := by omega
  unfold okA
  rw [h1, h2]
  cases h : hasF fr hs t with
  | false => simp
  | true =>
    have : t < fr := by
      unfold hasF at h
      simp at h
      omega
    simp
    omega
theorem place_bound {t a : Int} {lv : Nat} (ht : 0 ≤ t ∧ t < 1048576) : 0 ≤ partZ a (12 + 9 * lv) ∧ partZ a (12 + 9 * lv) < 512 ∧ 0 ≤ placeZ t a lv ∧ placeZ t a lv < 4294967296 := by
  unfold placeZ partZ
  omega
theorem place_wrap {t p : Int} (ht : 0 ≤ t ∧ t < 1048576) (hp : 0 ≤ p ∧ p < 512) :
    IntKind.wrap .u64 (IntKind.wrap .u64 (IntKind.wrap .u64 t * 4096) + IntKind.wrap .u64 (IntKind.wrap .i64 (8 * p))) = t * 4096 + 8 * p := by
  rw [wu64 (n := t) (by omega) (by omega), wu64 (n := t * 4096) (by omega) (by omega), w64 (n := 8 * p) (by omega) (by omega), wu64 (n := 8 * p) (by omega) (by omega), wu64 (by omega) (by omega)]
theorem entry_spec {b i j lv : Nat} {t a at_ lev : Int} {aw au af w u x : Bool} {Q : Int → Int → AH → Prop} {Kp : Value → AH → Prop} (h : Own l A) (e1 : l[i]? = some (RamS r fr hs M)) (e2 : l[j]? = some (At b (wcell r a aw au af w u x)))
    (hl : hs.length ≤ 64) (hf : 0 ≤ fr ∧ fr ≤ 1048576) (ht : 0 ≤ t ∧ t < 1048576) (hat : at_ = partZ a (12 + 9 * lv)) (hlev : lev = (lv : Int) + 1)
    (h2 : hasF fr hs t = false → Kp (.iface ty_walk_stop (.agg #[.int .u64 0, .int .i64 0, .int .i64 2])) A)
    (h0 : hasF fr hs t = true → bitZ (le M (placeZ t a lv) 8) 0 = false → Kp (.iface ty_walk_stop (.agg #[.int .u64 a, .int .i64 (codeZ aw au af), .int .i64 9])) A)
    (h9 : hasF fr hs t = true → bitZ (le M (placeZ t a lv) 8) 0 = true → resvd (le M (placeZ t a lv) 8) ((lv : Int) + 1) = true → Kp (.iface ty_walk_stop (.agg #[.int .u64 a, .int .i64 (9 + codeZ aw au af), .int .i64 9])) A)
    (hk : hasF fr hs t = true → bitZ (le M (placeZ t a lv) 8) 0 = true → resvd (le M (placeZ t a lv) 8) ((lv : Int) + 1) = false → ∀ A',
      Own (l.set j (At b (wcell r a aw au af (w && bitZ (le M (placeZ t a lv) 8) 1) (u && bitZ (le M (placeZ t a lv) 8) 2) (x && !bitZ (le M (placeZ t a lv) 8) 63)))) A' → Q (le M (placeZ t a lv) 8) (placeZ t a lv) A') :
    walk_walker_entry_A (some ⟨b, 0, none⟩) t at_ lev Q Kp A := by
  subst hat hlev
  have hb := place_bound (a := a) (lv := lv) ht
  have hjl := (List.getElem?_eq_some_iff.1 e2).1
  have hU := word_u64 h e1 (placeZ t a lv)
  unfold walk_walker_entry_A walk_walker_entry_G
  refine ld_P (i := j) h e2 rfl ?_
  rw [place_wrap ht ⟨hb.1, hb.2.1⟩]
  have hok := okA_word (fr := fr) (hs := hs) (t := t) (at_ := partZ a (12 + 9 * lv)) ⟨hb.1, hb.2.1⟩
  refine Load_spec (n := 8) h e1 hl hf (by omega) ⟨hb.2.2.1, Int.lt_trans hb.2.2.2 (by omega)⟩ ?_
  have hok2 : okA fr hs (t * 4096 + 8 * partZ a (12 + 9 * lv)) ((8 : Nat) : Int) = hasF fr hs t := hok
  rw [hok2]
  have hp : t * 4096 + 8 * partZ a (12 + 9 * lv) = placeZ t a lv := rfl
  rw [hp]
  generalize hx : le M (placeZ t a lv) 8 = e at *
  cases hh : hasF fr hs t with
  | false => exact ⟨fun _ => False, fun _ q => q.elim, bsel_t rfl (h2 hh)⟩
  | true =>
    simp only [↓reduceIte]
    refine ⟨fun h7 => h7 = A, ?_, bsel_f rfl rfl⟩
    intro h7 q
    subst q
    refine ⟨fun h12 => h12 = h7 ∧ bitZ e 0 = true, ?_, ?_⟩
    · intro h12 ⟨q1, q2⟩
      subst q1
      refine ⟨fun h19 => h19 = h12 ∧ resvd e ((lv : Int) + 1) = false, ?_, ?_⟩
      · intro h19 ⟨q3, q4⟩
        subst q3
        refine Unpack_spec hU h fun A3 h3 => ?_
        refine ⟨fun h38 => Own (l.set j (At b (wcell r a aw au af (w && bitZ e 1) u x))) h38, ?_, ?_⟩
        · intro h38 g38
          refine ⟨fun h46 => Own (l.set j (At b (wcell r a aw au af (w && bitZ e 1) (u && bitZ e 2) x))) h46, ?_, ?_⟩
          · intro h46 g46
            have e3 : (l.set j (At b (wcell r a aw au af (w && bitZ e 1) (u && bitZ e 2) x)))[j]? = some (At b (wcell r a aw au af (w && bitZ e 1) (u && bitZ e 2) x)) := by simp [hjl]
            refine ld_B (i := j) g46 e3 rfl ?_
            refine bsel_in (fun c => ?_) fun c => ?_
            · refine st_C (i := j) g46 e3 rfl rfl fun A4 h4 => ?_
              rw [List.set_set] at h4
              exact hk hh q2 q4 _ (by rw [c]; exact h4)
            · refine st_C (i := j) g46 e3 rfl rfl fun A4 h4 => ?_
              rw [List.set_set] at h4
              exact hk hh q2 q4 _ (by rw [c]; exact h4)
          · have e3 : (l.set j (At b (wcell r a aw au af (w && bitZ e 1) u x)))[j]? = some (At b (wcell r a aw au af (w && bitZ e 1) u x)) := by simp [hjl]
            refine ld_B (i := j) g38 e3 rfl ?_
            refine bsel_in (fun c => ?_) fun c => ?_
            · refine st_C (i := j) g38 e3 rfl rfl fun A4 h4 => ?_
              rw [List.set_set] at h4
              rw [c]
              exact h4
            · refine st_C (i := j) g38 e3 rfl rfl fun A4 h4 => ?_
              rw [List.set_set] at h4
              rw [c]
              exact h4
        · refine ld_B (i := j) h3 e2 rfl ?_
          refine bsel_in (fun c => ?_) fun c => ?_
          · refine st_C (i := j) h3 e2 rfl rfl fun A4 h4 => ?_
            rw [c]
            exact h4
          · refine st_C (i := j) h3 e2 rfl rfl fun A4 h4 => ?_
            rw [c]
            exact h4
      · refine Reserved_spec hU ?_
        refine bsel_in (fun c => ?_) fun c => ⟨rfl, c⟩
        exact fault_spec (.inr (.inr rfl)) h e2 (h9 hh q2 c)
    · rw [bit0 hU]
      refine bsel_in (fun c => ?_) fun c => ⟨rfl, by simpa using c⟩
      refine fault_spec (.inl rfl) h e2 ?_
      rw [Int.zero_add]
      exact h0 hh (by simpa using c)
theorem or5_eq {x : Int} (hx : U64 x) : bits .or .u64 x 32 = or5 x := bitZ_or 5 32 rfl (by omega) hx.1 hx.2
theorem or6_eq {x : Int} (hx : U64 x) : bits .or .u64 x 64 = or6 x := bitZ_or 6 64 rfl (by omega) hx.1 hx.2
theorem bit_room {x : Int} (k : Nat) (m : Int) (hm : m = 2 ^ k) (hk : k ≤ 62) (hx : U64 x) (hb : bitZ x k = false) : U64 (x + m) := by
  subst hm
  have hv := bitZ_val x k
  rw [hb] at hv
  have hp : (0 : Int) < 2 ^ k := Int.pow_pos (by omega)
  have h1 := hx.1
  have h2 := hx.2
  refine ⟨by omega, ?_⟩
  -- the part above the bit is even, so there is room
  have h3 := mod_pow_succ (x := x) k
  rw [← hv] at h3
  simp at h3
  have h4 := Int.mul_ediv_add_emod x (2 ^ (k + 1))
  have h5 := Int.emod_lt_of_pos x hp
  rw [h3] at h4
  have h6 : (2 : Int) ^ (k + 1) * (2 ^ (63 - k)) = 18446744073709551616 := by rw [← Int.pow_add, show k + 1 + (63 - k) = 64 by omega]; rfl
  have h7 : x / 2 ^ (k + 1) < 2 ^ (63 - k) := Int.ediv_lt_of_lt_mul (Int.pow_pos (by omega)) (by rw [Int.mul_comm, h6]; exact h2)
  have h8 : (2 : Int) ^ (k + 1) * (x / 2 ^ (k + 1)) ≤ 2 ^ (k + 1) * (2 ^ (63 - k) - 1) := Int.mul_le_mul_of_nonneg_left (by omega) (Int.pow_nonneg (by omega))
  rw [Int.mul_sub, h6, Int.mul_one] at h8
  have h9 : (2 : Int) ^ (k + 1) = 2 ^ k * 2 := Int.pow_succ _ _
  omega
theorem or5_u64 {x : Int} (hx : U64 x) : U64 (or5 x) := by
  unfold or5
  cases h : bitZ x 5
  · simpa using bit_room 5 32 rfl (by omega) hx h
  · simpa using hx
theorem or6_u64 {x : Int} (hx : U64 x) : U64 (or6 x) := by
  unfold or6
  cases h : bitZ x 6
  · simpa using bit_room 6 64 rfl (by omega) hx h
  · simpa using hx
def u64s (ps : List Int) : List Value := ps.map fun p => .int .u64 p
def markV (wr last : Bool) (x : Int) : Int := if wr && last then or6 (or5 x) else or5 x
theorem markV_u64 {wr last : Bool} {x : Int} (hx : U64 x) : U64 (markV wr last x) := by
  unfold markV
  split
  · exact or6_u64 (or5_u64 hx)
  · exact or5_u64 hx
/-- The places of a walk: in frames that are there. -/
def PlacesOK (fr : Int) (hs : List (Int × Int)) (ps : List Int) : Prop := ∀ p ∈ ps, okA fr hs p 8 = true ∧ 0 ≤ p ∧ p + 8 ≤ 18446744073709551616
theorem mark_spec {i k : Nat} {s : Sl} {ps : List Int} {wr : Bool} {Q : AH → Prop} (h : Own l A) (e1 : l[i]? = some (RamS r fr hs M)) (e2 : l[k]? = some (SlAt s 1 (u64s ps))) (hik : i ≠ k)
    (hl : hs.length ≤ 64) (hf : 0 ≤ fr ∧ fr ≤ 1048576) (hps : PlacesOK fr hs ps) (hn : ps.length ≤ 4) (hk : ∀ A', Own (l.set i (RamS r fr hs (markL M wr ps))) A' → Q A') : walk_mark_A (some ⟨r, 0, none⟩) s wr Q A := by
  have hil := (List.getElem?_eq_some_iff.1 e1).1
  have hlen : s.len = ps.length := by have := sl_len h e2; simp [u64s] at this; omega
  unfold walk_mark_A walk_mark_G
  refine ⟨fun q m h' => ∃ (j : Nat) (N : Int → Int), q = j ∧ j ≤ ps.length ∧ m = ps.length - j ∧ markL N wr (ps.drop j) = markL M wr ps ∧ Own (l.set i (RamS r fr hs N)) h', ⟨_, 0, M, rfl, by omega, rfl, by simp, ?_⟩, ?_⟩
  · rw [show l.set i (RamS r fr hs M) = l from ?_]
    · exact h
    · apply List.ext_getElem?
      intro c
      rw [List.getElem?_set]
      split
      · rename_i g; subst g; exact e1.symm
      · rfl
  intro q m h' ⟨j, N, g1, g2, g3, g4, g5⟩
  subst g1 g3
  have ei : (l.set i (RamS r fr hs N))[i]? = some (RamS r fr hs N) := by simp [hil]
  have ek : (l.set i (RamS r fr hs N))[k]? = some (SlAt s 1 (u64s ps)) := by rw [List.getElem?_set_ne hik]; exact e2
  refine bsel_in (fun c => ?_) fun c => ?_
  · have c : j < ps.length := by simp [hlen] at c; omega
    obtain ⟨p, hp⟩ : ∃ p, ps[j]? = some p := ⟨ps[j], by simp [c]⟩
    have hd : ps.drop j = p :: ps.drop (j + 1) := by
      rw [List.drop_eq_getElem_cons c]
      have := (List.getElem?_eq_some_iff.1 hp).2
      rw [this]
    have hok := hps p (List.mem_of_getElem? hp)
    have hU := word_u64 g5 ei p
    rw [hd] at g4
    have hstep : markL (stM N p 8 (markV wr (ps.drop (j + 1)).isEmpty (le N p 8))) wr (ps.drop (j + 1)) = markL M wr ps := g4
    have hnext : ∀ A', Own (l.set i (RamS r fr hs (stM N p 8 (markV wr (ps.drop (j + 1)).isEmpty (le N p 8))))) A' → ∃ m3, m3 < ps.length - j ∧ ∃ (j' : Nat) (N : Int → Int), IntKind.wrap .i64 ((j : Int) + 1) = j' ∧ j' ≤ ps.length ∧ m3 = ps.length - j' ∧ markL N wr (ps.drop j') = markL M wr ps ∧ Own (l.set i (RamS r fr hs N)) A' :=
      fun A' hA => ⟨ps.length - (j + 1), by omega, j + 1, _, by rw [w64] <;> omega, by omega, rfl, hstep, hA⟩
    refine ⟨fun h'' => Own (l.set i (RamS r fr hs (stM N p 8 (markV wr (ps.drop (j + 1)).isEmpty (le N p 8))))) h'', fun h'' q => hnext h'' q, ?_⟩
    obtain ⟨b, o, q1, q2⟩ := sl_cell g5 ek (j := j) (v := .int .u64 p) (by simp [u64s, hp])
    rw [q1]
    refine inB_in (by omega) (by rw [hlen]; omega) ⟨p, ?_, ?_⟩
    · rw [add_at]; simpa using q2
    refine Load_spec (n := 8) g5 ei hl hf (by omega) ⟨hok.2.1, by omega⟩ ?_
    have hok2 : okA fr hs p ((8 : Nat) : Int) = true := hok.1
    rw [hok2]
    simp only [↓reduceIte]
    refine ⟨fun y h'' => h'' = h' ∧ y = markV wr (ps.drop (j + 1)).isEmpty (le N p 8), ?_, ?_⟩
    · intro y h'' ⟨q3, q4⟩
      subst q3 q4
      refine bsel_in (fun c2 => ?_) fun c2 => ?_
      · refine Store_at (n := 8) g5 ei hl hf (by omega) ⟨hok.2.1, by omega⟩ (fun q => by rw [hok2] at q; cases q) fun _ A' hA => ?_
        rw [List.set_set] at hA
        exact hA
      · have c2 : markV wr (ps.drop (j + 1)).isEmpty (le N p 8) = le N p 8 := by simpa using c2
        rw [c2, st_same (RamS.byte g5 ei)]
        exact g5
    · have hlast : ((j : Int) == IntKind.wrap .i64 (Int.ofNat s.len - 1)) = (ps.drop (j + 1)).isEmpty := by
        rw [w64 (by simp [hlen]; omega) (by simp [hlen]; omega), hlen]
        by_cases g : j + 1 = ps.length
        · have : (ps.drop (j + 1)).isEmpty = true := by simp; omega
          rw [this]; simp; omega
        · have : (ps.drop (j + 1)).isEmpty = false := by simp; omega
          rw [this]; simp; omega
      rw [hlast, or5_eq hU, or6_eq (or5_u64 hU)]
      unfold markV
      refine bsel_in (fun c3 => ?_) fun c3 => ?_
      · refine bsel_in (fun c4 => ⟨rfl, ?_⟩) fun c4 => ⟨rfl, ?_⟩
        · rw [c3, c4]; rfl
        · rw [c3, c4]; rfl
      · exact ⟨rfl, by rw [c3]; rfl⟩
  · have : j = ps.length := by simp [hlen] at c; omega
    subst this
    rw [List.drop_length] at g4
    have g4 : N = markL M wr ps := g4
    rw [g4] at g5
    exact hk _ g5
end Go.Dn
/- Entries written and read. -/
namespace Go.Dn

variable {A : AH} {l R : List SP} {r : Nat} {fr : Int} {hs : List (Int × Int)} {M : Int → Int}
def eZ (b : Bool) : Int := if b then 1 else 0
theorem eZ_b (b : Bool) : 0 ≤ eZ b ∧ eZ b ≤ 1 := by cases b <;> decide
/-- An entry as a number. -/
def packZ (b0 b1 b2 b3 b4 b5 b6 b7 : Bool) (f : Int) : Int := f * 4096 + eZ b0 + 2 * eZ b1 + 4 * eZ b2 + 32 * eZ b3 + 64 * eZ b4 + 128 * eZ b5 + 256 * eZ b6 + 9223372036854775808 * eZ b7
def pkZ (p : Nat → Bool) (f : Int) : Nat → Int
  | 0 => f * 4096
  | j + 1 => pkZ p f j + 2 ^ placeN j * eZ (p j)
theorem pack_bits (b0 b1 b2 b3 b4 b5 b6 b7 : Bool) {f : Int} (hf : 0 ≤ f ∧ f < 1048576) : bitZ (packZ b0 b1 b2 b3 b4 b5 b6 b7 f) 0 = b0 ∧ bitZ (packZ b0 b1 b2 b3 b4 b5 b6 b7 f) 1 = b1 ∧ bitZ (packZ b0 b1 b2 b3 b4 b5 b6 b7 f) 2 = b2 ∧
    bitZ (packZ b0 b1 b2 b3 b4 b5 b6 b7 f) 5 = b3 ∧ bitZ (packZ b0 b1 b2 b3 b4 b5 b6 b7 f) 6 = b4 ∧ bitZ (packZ b0 b1 b2 b3 b4 b5 b6 b7 f) 7 = b5 ∧ bitZ (packZ b0 b1 b2 b3 b4 b5 b6 b7 f) 8 = b6 ∧ bitZ (packZ b0 b1 b2 b3 b4 b5 b6 b7 f) 63 = b7 ∧
    frameZ (packZ b0 b1 b2 b3 b4 b5 b6 b7 f) = f ∧ U64 (packZ b0 b1 b2 b3 b4 b5 b6 b7 f) := by
  have h0 := eZ_b b0
  have h1 := eZ_b b1
  have h2 := eZ_b b2
  have h3 := eZ_b b3
  have h4 := eZ_b b4
  have h5 := eZ_b b5
  have h6 := eZ_b b6
  have h7 := eZ_b b7
  have key : ∀ (x : Int) (k : Nat) (b : Bool), x / 2 ^ k % 2 = eZ b → bitZ x k = b := by
    intro x k b h
    unfold bitZ
    rw [h]
    cases b <;> rfl
  refine ⟨key _ _ _ ?_, key _ _ _ ?_, key _ _ _ ?_, key _ _ _ ?_, key _ _ _ ?_, key _ _ _ ?_, key _ _ _ ?_, key _ _ _ ?_, ?_, ?_⟩
  all_goals unfold packZ
  · omega
  · omega
  · omega
  · omega
  · omega
  · omega
  · omega
  · omega
  · unfold frameZ; omega
  · unfold U64; omega
theorem pk_step (p : Nat → Bool) {f : Int} (hf : 0 ≤ f ∧ f < 1048576) {j : Nat} (hj : j < 8) : bitZ (pkZ p f j) (placeN j) = false ∧ U64 (pkZ p f j) := by
  have h0 := eZ_b (p 0)
  have h1 := eZ_b (p 1)
  have h2 := eZ_b (p 2)
  have h3 := eZ_b (p 3)
  have h4 := eZ_b (p 4)
  have h5 := eZ_b (p 5)
  have h6 := eZ_b (p 6)
  have key : ∀ (x : Int) (k : Nat), x / 2 ^ k % 2 = 0 → bitZ x k = false := by
    intro x k h
    unfold bitZ
    rw [h]; rfl
  obtain rfl | rfl | rfl | rfl | rfl | rfl | rfl | rfl : j = 0 ∨ j = 1 ∨ j = 2 ∨ j = 3 ∨ j = 4 ∨ j = 5 ∨ j = 6 ∨ j = 7 := by omega
  all_goals (refine ⟨key _ _ ?_, ?_⟩ <;> simp only [pkZ, placeN, U64] <;> omega)
theorem pk_8 (b0 b1 b2 b3 b4 b5 b6 b7 : Bool) (f : Int) : pkZ (fun i => [b0, b1, b2, b3, b4, b5, b6, b7].getD i false) f 8 = packZ b0 b1 b2 b3 b4 b5 b6 b7 f := by
  simp only [pkZ, placeN, packZ, List.getD_cons_zero, List.getD_cons_succ]
  omega
set_option maxHeartbeats 1000000 in
theorem Pack_spec {b0 b1 b2 b3 b4 b5 b6 b7 : Bool} {f : Int} {Q : Int → Int → AH → Prop} (h : Own l A) (hf : 0 ≤ f ∧ f < 1048576) (hk : ∀ A', Own l A' → Q (packZ b0 b1 b2 b3 b4 b5 b6 b7 f) 0 A') : pte_Pack_A b0 b1 b2 b3 b4 b5 b6 b7 f Q A := by
  unfold pte_Pack_A pte_Pack_G
  show newA A (.cells [.bool b0, .bool b1, .bool b2, .bool b3, .bool b4, .bool b5, .bool b6, .bool b7, .int .i64 f].toArray _) _
  refine new_C h fun b A1 h1 => ?_
  simp only [add_at]
  refine ⟨fun h6 => h6 = A1, ?_, ld_I (i := 0) h1 rfl rfl (bsel_f (by simp; omega) (ld_I (i := 0) h1 rfl rfl (bsel_f (by simp; omega) rfl)))⟩
  intro A2 e2
  subst e2
  refine ld_I (i := 0) h1 rfl rfl ?_
  unfold pte_Entry_flags_A
  simp only [onSome, add_at]
  refine ⟨fun x y m h' => h' = A2 ∧ ∃ j : Nat, y = j ∧ j ≤ 8 ∧ 8 - j = m ∧ x = pkZ (fun i => [b0, b1, b2, b3, b4, b5, b6, b7].getD i false) f j, ⟨_, rfl, 0, rfl, by omega, rfl, ?_⟩, ?_⟩
  · rw [wu64 (n := f) (by omega) (by omega)]
    show IntKind.wrap .u64 (f * 4096) = f * 4096
    rw [wu64] <;> omega
  intro x y m h' ⟨e0, j, e1, e2, e3, e4⟩
  subst e0 e1 e3 e4
  refine bsel_in (fun c => ?_) fun c => ?_
  rotate_left
  · have : j = 8 := by simp at c; omega
    subst this
    rw [pk_8]
    exact hk _ h1.tail
  have c : j < 8 := by simp at c; omega
  obtain ⟨hb, hU⟩ := pk_step (fun i => [b0, b1, b2, b3, b4, b5, b6, b7].getD i false) hf c
  have hpl : placeN j ≤ 63 := by
    obtain rfl | rfl | rfl | rfl | rfl | rfl | rfl | rfl : j = 0 ∨ j = 1 ∨ j = 2 ∨ j = 3 ∨ j = 4 ∨ j = 5 ∨ j = 6 ∨ j = 7 := by omega
    all_goals decide
  have hp : ([.pointer (some ⟨b, 0, none⟩), .pointer (some ⟨b, 0 + 1, none⟩), .pointer (some ⟨b, 0 + 2, none⟩), .pointer (some ⟨b, 0 + 3, none⟩), .pointer (some ⟨b, 0 + 4, none⟩), .pointer (some ⟨b, 0 + 5, none⟩), .pointer (some ⟨b, 0 + 6, none⟩), .pointer (some ⟨b, 0 + 7, none⟩)] : List Value)[Int.toNat (j : Int)]? = some (.pointer (some ⟨b, j, none⟩)) := by
    obtain rfl | rfl | rfl | rfl | rfl | rfl | rfl | rfl : j = 0 ∨ j = 1 ∨ j = 2 ∨ j = 3 ∨ j = 4 ∨ j = 5 ∨ j = 6 ∨ j = 7 := by omega
    all_goals rfl
  have hq : ([.int .i64 0, .int .i64 1, .int .i64 2, .int .i64 5, .int .i64 6, .int .i64 7, .int .i64 8, .int .i64 63] : List Value)[Int.toNat (j : Int)]? = some (.int .i64 (placeN j)) := by
    obtain rfl | rfl | rfl | rfl | rfl | rfl | rfl | rfl : j = 0 ∨ j = 1 ∨ j = 2 ∨ j = 3 ∨ j = 4 ∨ j = 5 ∨ j = 6 ∨ j = 7 := by omega
    all_goals rfl
  have hc : ([.bool b0, .bool b1, .bool b2, .bool b3, .bool b4, .bool b5, .bool b6, .bool b7, .int .i64 f] : List Value)[j]? = some (.bool ([b0, b1, b2, b3, b4, b5, b6, b7].getD j false)) := by
    obtain rfl | rfl | rfl | rfl | rfl | rfl | rfl | rfl : j = 0 ∨ j = 1 ∨ j = 2 ∨ j = 3 ∨ j = 4 ∨ j = 5 ∨ j = 6 ∨ j = 7 := by omega
    all_goals rfl
  refine ⟨fun x h9 => h9 = h' ∧ x = pkZ (fun i => [b0, b1, b2, b3, b4, b5, b6, b7].getD i false) f (j + 1), fun x h9 ⟨q1, q2⟩ => ⟨8 - (j + 1), by omega, q1, j + 1, by rw [w64] <;> omega, by omega, rfl, q2⟩, ?_⟩
  refine inB_in (by omega) (by omega) ⟨_, hp, ?_⟩
  refine ld_B (i := 0) h1 rfl hc ?_
  unfold pte_places_A
  cases hv : [b0, b1, b2, b3, b4, b5, b6, b7].getD j false with
  | false => exact ⟨rfl, by simp only [pkZ, hv, eZ]; simp⟩
  | true =>
    refine inB_in (by omega) (by omega) ⟨_, hq, bsel_f (by simp) ⟨rfl, ?_⟩⟩
    rw [show min (Int.toNat (placeN j : Int)) 64 = placeN j by omega, Int.one_mul]
    have h2p : (2 : Int) ^ placeN j = ((2 ^ placeN j : Nat) : Int) := by simp
    have hle : (2 : Int) ^ placeN j ≤ 2 ^ 63 := by
      have : (2 : Nat) ^ placeN j ≤ 2 ^ 63 := Nat.pow_le_pow_right (by omega) hpl
      have h3 : ((2 ^ placeN j : Nat) : Int) ≤ ((2 ^ 63 : Nat) : Int) := Int.ofNat_le.2 this
      simpa using h3
    have hpos : (0 : Int) < 2 ^ placeN j := Int.pow_pos (by omega)
    rw [wu64 (n := (2 : Int) ^ placeN j) (by omega) (by omega), bitZ_or (placeN j) (2 ^ placeN j) h2p hpl hU.1 hU.2, hb]
    simp only [pkZ, hv, eZ]
    simp
end Go.Dn
/- Maps with numbers as keys: what is taken out, how many, all keys; the block that a number is in. -/
namespace Go.Dn
open Go.MapKept

variable {A : AH} {l R : List SP}
def delM (m : List (Int × Value)) (key : Int) : List (Int × Value) := match m with
  | [] => []
  | p :: m => if p.1 = key then m else p :: delM m key
theorem find_del {k : IntKind} {key : Int} : ∀ (es : List MapEntry) (m : List (Int × Value)) (j : Nat), es.map (fun e => (e.key, e.val)) = m.map (fun p => (.int k p.1, p.2)) →
    ∃ r, Instr.findNow (.int k) (.int k key) es j = some r ∧
      (∀ i v, r = some (i, v) → j ≤ i ∧ i - j < es.length ∧ (es.eraseIdx (i - j)).map (fun e => (e.key, e.val)) = (delM m key).map (fun p => (.int k p.1, p.2))) ∧ (r = none → delM m key = m)
  | [], [], j, _ => ⟨none, rfl, (fun _ _ e => nomatch e), fun _ => rfl⟩
  | [], _ :: _, _, e => by simp at e
  | _ :: _, [], _, e => by simp at e
  | e :: es, p :: m, j, h => by
    simp only [List.map_cons, List.cons.injEq, Prod.mk.injEq] at h
    obtain ⟨⟨h1, h2⟩, h3⟩ := h
    simp only [Instr.findNow, h1, Instr.sameNow]
    by_cases q : p.1 = key
    · refine ⟨some (j, e.val), by simp [q], ?_, fun hn => by cases hn⟩
      intro i v hv
      simp only [Option.some.injEq, Prod.mk.injEq] at hv
      obtain ⟨rfl, rfl⟩ := hv
      exact ⟨Nat.le_refl _, by simp, by simp [delM, q, h3]⟩
    · obtain ⟨r, k1, k3, k4⟩ := find_del (k := k) (key := key) es m (j + 1) h3
      refine ⟨r, ?_, ?_, ?_⟩
      · have g : (key == p.1) = false := by simpa using fun g => q g.symm
        rw [g]; exact k1
      · intro i v hv
        obtain ⟨k5, k6, k7⟩ := k3 i v hv
        refine ⟨by omega, by simp; omega, ?_⟩
        rw [show i - j = (i - (j + 1)) + 1 by omega]
        simp only [List.eraseIdx_cons_succ, List.map_cons, k7]
        simp [delM, q, h1, h2]
      · intro hn
        simp [delM, q, k4 hn]
theorem dl_M {i b : Nat} {k : IntKind} {key : Int} {m : List (Int × Value)} {K : AP} (h : Own l A) (e : l[i]? = some (MapI b k m)) (hk : ∀ A', Own (l.set i (MapI b k (delM m key))) A' → K A') : aMDl A (some b) k key K := by
  obtain ⟨es, c, h1, h2, hst⟩ := h.map e
  obtain ⟨r, k1, k3, k4⟩ := find_del (k := k) (key := key) es.toList m 0 h2
  refine ⟨es, c, h1, r, k1, hk _ ?_⟩
  refine h.upd e (fun B ⟨_, _, hb, _⟩ => ⟨_, hb⟩) fun B _ => ?_
  cases r with
  | none =>
    refine ⟨_, _, updA_self, ?_, hst⟩
    rw [k4 rfl]; exact h2
  | some p =>
    obtain ⟨i, v0⟩ := p
    obtain ⟨k5, k6, k7⟩ := k3 i v0 rfl
    refine ⟨_, _, updA_self, ?_, stamped_erase hst i⟩
    show (es.eraseIdxIfInBounds i).toList.map _ = _
    have : (es.eraseIdxIfInBounds i).toList = es.toList.eraseIdx i := by
      rw [Array.eraseIdxIfInBounds_eq]
      split
      · simp
      · rename_i g
        rw [List.eraseIdx_of_length_le (by simpa using Nat.le_of_not_lt g)]
    rw [this]
    exact k7
theorem ln_M {i b : Nat} {k : IntKind} {m : List (Int × Value)} {K : Int → Prop} (h : Own l A) (e : l[i]? = some (MapI b k m)) (hk : K m.length) : aMLn A (some b) K := by
  obtain ⟨es, c, h1, h2, _⟩ := h.map e
  refine ⟨es.toList, by simp [mapEA, h1], ?_⟩
  have : es.toList.length = m.length := by
    have := congrArg List.length (show es.toList.map (fun e => (e.key, e.val)) = _ from h2)
    simpa using this
  rw [this]; exact hk
/-- All keys, in any order, in a slice of one's own. -/
theorem cl_M {i b r t : Nat} {m : List (Int × Value)} {Q : Sl → AP} {j : Nat} (h : Own l A) (ep : l[j]? = some (At b [.map (some r)])) (e : l[i]? = some (MapI r .i64 m)) (hn : m.length ≤ 17592186044416) (hr : ∀ p ∈ m, (Lit.int .i64 p.1).wf = true)
    (h0 : m = [] → Q Sl.nil A)
    (hk : ∀ (ss : List Int) s A', ss.Perm (m.map (·.1)) → ss ≠ [] → s.len = ss.length → Own (SlAt s 1 (ss.map (.int .i64)) :: l) A' → Q s A') : clA t (some ⟨b, 0, none⟩) Q A := by
  obtain ⟨es, c, h1, h2, hst⟩ := h.map e
  refine ⟨b, some r, rfl, cell_at ep h rfl, es, c, h1, ⟨hst, ?_, ?_⟩, fun ss hs => ⟨fun he => ?_, fun cap cur hne hle hsz hcur => ?_⟩⟩
  · have : es.toList.length = m.length := by
      have := congrArg List.length (show es.toList.map (fun e => (e.key, e.val)) = _ from h2)
      simpa using this
    have : es.size = m.length := by simpa using this
    omega
  · intro x hx
    have : (x.key, x.val) ∈ m.map fun p => ((.int .i64 p.1 : Value), p.2) := by rw [← show es.toList.map (fun e => (e.key, e.val)) = _ from h2]; exact List.mem_map.2 ⟨x, hx, rfl⟩
    obtain ⟨p, hp, hpe⟩ := List.mem_map.1 this
    simp only [Prod.mk.injEq] at hpe
    exact ⟨p.1, hpe.1.symm, hr p hp⟩
  · apply h0
    subst he
    have := hs.length_eq
    have h3 : es.toList.length = m.length := by
      have := congrArg List.length (show es.toList.map (fun e => (e.key, e.val)) = _ from h2)
      simpa using this
    apply List.length_eq_zero_iff.1
    simp at this h3
    rw [← h3, ← this]
  · intro g hg
    have hm : es.toList.map keyI = m.map (·.1) := by
      have h3 : (es.toList.map fun e => (e.key, e.val)).map (fun p => match p.1 with | .int _ n => n | _ => 0) = (m.map fun p => ((.int .i64 p.1 : Value), p.2)).map (fun p => match p.1 with | .int _ n => n | _ => 0) := congrArg _ h2
      rw [List.map_map, List.map_map] at h3
      exact h3
    rw [hm] at hs
    refine hk ss _ _ hs hne rfl (h.new hg fun B hB => ⟨by simp, hle, fun _ => ⟨g, [], cur.toList.drop ss.length, rfl, t, ?_⟩⟩)
    have : [] ++ ss.map (Value.int .i64) ++ cur.toList.drop ss.length = cur.toList := by
      rw [List.nil_append, ← hcur, List.take_append_drop]
    rw [this, hB, Array.toArray_toList]
end Go.Dn
/- A memory, made. -/
namespace Go.Dn

variable {A : AH} {l : List SP} {r : Nat} {fr : Int} {hs : List (Int × Int)} {M : Int → Int}
theorem Own.nilO {sz : Nat} (h : Own l A) : Own (SlO Sl.nil sz [] :: l) A := ⟨fun _ => none, _, fun _ => .inl rfl, (fun b o e => nomatch e), Sub.refl _, SlO.nil, h⟩
def holeOK (fr : Int) (p : Int × Int) : Bool := !(decide (p.1 < 0)) && !(decide (p.2 < p.1)) && !(decide (p.2 > fr))
def newCode (fr : Int) (hs : List (Int × Int)) : Int := if fr < 1 then 1 else if fr > 1048576 then 4 else if hs.length > 64 then 4 else if hs.all (holeOK fr) then 0 else 3
theorem New_spec {k : Nat} {s : Sl} {Q : Option Addr → Int → AH → Prop} (h : Own l A) (e : l[k]? = some (SlAt s 2 (holeCells hs))) (hn : newCode fr hs ≠ 0 → Q none (newCode fr hs) A)
    (hk : newCode fr hs = 0 → ∀ r A', Own (RamS r fr hs (fun _ => 0) :: l) A' → Q (some ⟨r, 0, none⟩) 0 A') : ram_New_A fr s Q A := by
  have hlen : s.len * 2 = hs.length * 2 := by rw [← holeCells_len]; exact sl_len h e
  have hlen : s.len = hs.length := by omega
  unfold ram_New_A
  unfold newCode at hn hk
  refine bsel_in (fun c => ?_) fun c => ?_
  · have c : fr < 1 := by simpa using c
    rw [if_pos c] at hn; exact hn (by decide)
  have c : ¬ fr < 1 := by simpa using c
  rw [if_neg c] at hn hk
  refine ⟨fun h2 => h2 = A ∧ ¬ fr > 1048576 ∧ ¬ hs.length > 64, ?_, bsel_in (fun c2 => ?_) fun c2 => bsel_in (fun c3 => ?_) fun c3 => ⟨rfl, by simpa using c2, by simp [hlen] at c3; omega⟩⟩
  rotate_left
  · have c2 : fr > 1048576 := by simpa using c2
    rw [if_pos c2] at hn; exact hn (by decide)
  · have c2 : ¬ fr > 1048576 := by simpa using c2
    rw [if_neg c2] at hn
    have c3 : hs.length > 64 := by simp [hlen] at c3; omega
    rw [if_pos c3] at hn; exact hn (by decide)
  intro A0 ⟨e0, c2, c3⟩
  subst e0
  rw [if_neg c2] at hn hk
  rw [if_neg c3] at hn hk
  refine ⟨fun x m h' => h' = A0 ∧ ∃ j : Nat, x = j ∧ j ≤ hs.length ∧ m = hs.length - j ∧ (hs.take j).all (holeOK fr) = true, ⟨_, rfl, 0, rfl, by omega, rfl, by simp⟩, ?_⟩
  intro x m h' ⟨e1, j, e2, e3, e4, e5⟩
  subst e1 e2 e4
  refine bsel_in (fun c4 => ?_) fun c4 => ?_
  · have c4 : j < hs.length := by simp [hlen] at c4; omega
    obtain ⟨p, hp⟩ : ∃ p, hs[j]? = some p := ⟨hs[j], by simp [c4]⟩
    obtain ⟨h1, h2⟩ := holeCells_at hp
    obtain ⟨b, o, g1, g2⟩ := sl_cell h e h1
    obtain ⟨b', o', g3, g4⟩ := sl_cell h e h2
    rw [g1] at g3
    cases g3
    rw [g1]
    refine inB_in (by omega) (by rw [hlen]; omega) ⟨p.1, ?_, p.2, ?_, ?_⟩
    · rw [add_at]; simpa using g2
    · rw [add_at, add_at]; simpa [Nat.add_assoc] using g4
    have hbad : holeOK fr p = false → Q none 3 h' := fun q => by
      have : hs.all (holeOK fr) = false := by
        rw [List.all_eq_false]
        exact ⟨p, List.mem_of_getElem? hp, by simp [q]⟩
      rw [this] at hn
      exact hn (by decide)
    refine bsel_in (fun c5 => hbad (by unfold holeOK; rw [c5]; rfl)) fun c5 => ?_
    refine bsel_in (fun c6 => hbad (by unfold holeOK; rw [c5, c6]; rfl)) fun c6 => ?_
    refine bsel_in (fun c7 => hbad (by unfold holeOK; rw [c5, c6, c7]; rfl)) fun c7 => ?_
    refine ⟨hs.length - (j + 1), by omega, rfl, j + 1, by rw [w64] <;> omega, by omega, rfl, ?_⟩
    rw [List.take_add_one, hp]
    simp only [List.all_append, e5, Option.toList_some, List.all_cons, List.all_nil, Bool.and_true, Bool.true_and]
    unfold holeOK
    rw [c5, c6, c7]; rfl
  · have : j = hs.length := by simp [hlen] at c4; omega
    subst this
    rw [List.take_length] at e5
    rw [e5] at hk
    have hnone : s.a = none → holeCells hs = [] := by
      intro q
      obtain ⟨B, _, hB⟩ := Own.get e h
      by_cases g : holeCells hs = []
      · exact g
      · obtain ⟨b, pre, rest, hb, _⟩ := hB.2.2 g
        rw [q] at hb; cases hb
    refine ap_head (i := k) h.nilO e hnone (fun _ => rfl) rfl ?_ ⟨by simp [Sl.nil, hlen]; omega, by simp [Sl.nil, hlen]; omega⟩ fun s' A' hs1 hs2 h1 => ?_
    · intro v hv
      simp only [holeCells, List.mem_flatMap] at hv
      obtain ⟨p, _, hv⟩ := hv
      simp at hv
      rcases hv with rfl | rfl <;> rfl
    refine new_M (k := .i64) h1 fun mb A2 h2 => ?_
    refine new_C h2 fun r A3 h3 => ?_
    refine hk rfl r A3 ?_
    refine Own.imp (P := Own (ramL r fr hs s' mb (fun _ => 0) [])) (fun B hB => ⟨s', mb, [], ⟨by simp, fun _ => by omega, fun _ _ _ => rfl⟩, hB⟩) ?_
    refine Own.app ?_
    show Own (_ :: SlAt s' 2 (holeCells hs) :: MapI mb .i64 [] :: l) A3
    refine h3.cons fun C hC => ?_
    exact Own.imp (fun B hB => hB.look) hC.swap

end Go.Dn
/- A memory by its words: entries of tables. -/
namespace Go.Dn

variable {A : AH} {l R : List SP} {r : Nat} {fr : Int} {hs : List (Int × Int)} {M : Int → Int} {W : Int → Int → Int}
def wordAt (M : Int → Int) (t i : Int) : Int := le M (t * 4096 + 8 * i) 8
structure RamOK (fr : Int) (hs : List (Int × Int)) : Prop where
  holes : hs.length ≤ 64
  lo : 0 ≤ fr
  hi : fr ≤ 1048576
/-- A memory: its words, by frame and place. -/
def RamW (r : Nat) (fr : Int) (hs : List (Int × Int)) (W : Int → Int → Int) : SP := fun B => ∃ M, (RamOK fr hs ∧ ∀ t i, 0 ≤ t → 0 ≤ i → i < 512 → W t i = wordAt M t i) ∧ RamS r fr hs M B
theorem RamW.openH (h : Own (RamW r fr hs W :: R) A) : ∃ M, (RamOK fr hs ∧ ∀ t i, 0 ≤ t → 0 ≤ i → i < 512 → W t i = wordAt M t i) ∧ Own (RamS r fr hs M :: R) A := by
  obtain ⟨M, h⟩ := Own.ex h
  obtain ⟨h1, h⟩ := Own.pure h
  exact ⟨M, h1, h⟩
theorem RamW.closeH (h1 : RamOK fr hs) (h2 : ∀ t i, 0 ≤ t → 0 ≤ i → i < 512 → W t i = wordAt M t i) (h : Own (RamS r fr hs M :: R) A) : Own (RamW r fr hs W :: R) A := h.imp fun _ hB => ⟨M, ⟨h1, h2⟩, hB⟩
theorem has_range {t : Int} (h : hasF fr hs t = true) (_hf : fr ≤ 1048576) : 0 ≤ t ∧ t < fr := by
  unfold hasF at h
  simp at h
  omega
def setW (W : Int → Int → Int) (t i x : Int) : Int → Int → Int := fun t' i' => if t' = t ∧ i' = i then x else W t' i'
def zeroW (W : Int → Int → Int) (t : Int) : Int → Int → Int := fun t' i' => if t' = t then 0 else W t' i'
theorem word_st {t i x t' i' : Int} (hi : 0 ≤ i ∧ i < 512) (hi' : 0 ≤ i' ∧ i' < 512) (hx : U64 x) : wordAt (stM M (t * 4096 + 8 * i) 8 x) t' i' = if t' = t ∧ i' = i then x else wordAt M t' i' := by
  unfold wordAt
  split
  · rename_i g
    rw [g.1, g.2]
    exact le_same M _ x 8 hx.1 hx.2
  · rename_i g
    refine le_apart M _ _ x 8 8 ?_
    by_cases e : t' = t
    · have : i' ≠ i := fun q => g ⟨e, q⟩
      subst e
      omega
    · omega
theorem word_u (h : Own (RamW r fr hs W :: R) A) {t i : Int} (ht : 0 ≤ t) (hi : 0 ≤ i ∧ i < 512) : U64 (W t i) := by
  obtain ⟨M, ⟨h1, h2⟩, hh⟩ := RamW.openH h
  rw [h2 t i ht hi.1 hi.2]
  exact word_u64 (i := 0) hh rfl _
theorem Has_head {f : Int} {Q : Bool → AH → Prop} (h : Own (RamW r fr hs W :: R) A) (hk : Q (hasF fr hs f) A) : ram_RAM_Has_A (some ⟨r, 0, none⟩) f Q A := by
  obtain ⟨M, ⟨h1, h2⟩, hh⟩ := RamW.openH h
  exact Has_spec (i := 0) hh rfl h1.holes hk
theorem Frames_head {Q : Int → AH → Prop} (h : Own (RamW r fr hs W :: R) A) (hk : Q fr A) : ram_RAM_Frames_A (some ⟨r, 0, none⟩) Q A := by
  obtain ⟨M, ⟨h1, h2⟩, hh⟩ := RamW.openH h
  obtain ⟨s, mb, pm, ok, ho⟩ := RamS.open (i := 0) hh rfl
  exact ld_I (i := 0) ho rfl rfl hk
theorem get_head {t i bx : Int} {pb pt : Option Addr} {Q : Bool → Bool → Bool → Bool → Bool → Bool → Bool → Bool → Int → AH → Prop} (h : Own (RamW r fr hs W :: R) A) (ht : hasF fr hs t = true) (hi : 0 ≤ i ∧ i < 512)
    (hk : ∀ A', Own (RamW r fr hs W :: R) A' → Q (bitZ (W t i) 0) (bitZ (W t i) 1) (bitZ (W t i) 2) (bitZ (W t i) 5) (bitZ (W t i) 6) (bitZ (W t i) 7) (bitZ (W t i) 8) (bitZ (W t i) 63) (frameZ (W t i)) A') :
    table_Purse_get_A (some ⟨r, 0, none⟩) pb pt bx t i Q A := by
  have hU := word_u h (t := t) (i := i) (has_range ht (RamW.openH h).choose_spec.1.1.hi).1 hi
  obtain ⟨M, ⟨h1, h2⟩, hh⟩ := RamW.openH h
  have hr := has_range ht h1.hi
  have hfr := h1.hi
  unfold table_Purse_get_A table_Purse_get_G table_place_A
  rw [place_wrap ⟨hr.1, by omega⟩ hi]
  refine Load_spec (n := 8) (i := 0) hh rfl h1.holes ⟨h1.lo, h1.hi⟩ (by omega) ⟨by omega, by omega⟩ ?_
  have hok : okA fr hs (t * 4096 + 8 * i) ((8 : Nat) : Int) = true := (okA_word hi).trans ht
  rw [hok]
  simp only [↓reduceIte]
  have hw : le M (t * 4096 + 8 * i) 8 = W t i := (h2 t i hr.1 hi.1 hi.2).symm
  rw [hw]
  exact Unpack_spec hU hh fun A' hA => hk A' (RamW.closeH h1 h2 hA)
theorem store_head {t i x : Int} {Q : Int → AH → Prop} (h : Own (RamW r fr hs W :: R) A) (ht : hasF fr hs t = true) (hi : 0 ≤ i ∧ i < 512) (hx : U64 x) (hk : ∀ A', Own (RamW r fr hs (setW W t i x) :: R) A' → Q 0 A') :
    ram_RAM_Store_A (some ⟨r, 0, none⟩) (t * 4096 + 8 * i) 8 x Q A := by
  obtain ⟨M, ⟨h1, h2⟩, hh⟩ := RamW.openH h
  have hr := has_range ht h1.hi
  have hfr := h1.hi
  have hok : okA fr hs (t * 4096 + 8 * i) ((8 : Nat) : Int) = true := (okA_word hi).trans ht
  refine Store_spec (n := 8) hh h1.holes ⟨h1.lo, h1.hi⟩ (by omega) ⟨by omega, by omega⟩ (fun q => by rw [hok] at q; cases q) fun _ A' hA => hk A' (RamW.closeH h1 (fun t' i' q1 q2 q3 => ?_) hA)
  rw [word_st hi ⟨q2, q3⟩ hx]
  unfold setW
  rw [h2 t' i' q1 q2 q3]
theorem place_eq {t i : Int} (ht : 0 ≤ t ∧ t < 1048576) (hi : 0 ≤ i ∧ i < 512) {Q : Int → AH → Prop} (hk : Q (t * 4096 + 8 * i) A) : table_place_A t i Q A := by
  unfold table_place_A
  rw [place_wrap ht hi]
  exact hk
theorem put_head {t i f bx : Int} {pb pt : Option Addr} {b0 b1 b2 b3 b4 b5 b6 b7 : Bool} {Q : AH → Prop} (h : Own (RamW r fr hs W :: R) A) (ht : hasF fr hs t = true) (hi : 0 ≤ i ∧ i < 512) (hf : 0 ≤ f ∧ f < 1048576)
    (hk : ∀ A', Own (RamW r fr hs (setW W t i (packZ b0 b1 b2 b3 b4 b5 b6 b7 f)) :: R) A' → Q A') : table_Purse_put_A (some ⟨r, 0, none⟩) pb pt bx t i b0 b1 b2 b3 b4 b5 b6 b7 f Q A := by
  have hr := has_range ht (RamW.openH h).choose_spec.1.1.hi
  have hfr := (RamW.openH h).choose_spec.1.1.hi
  unfold table_Purse_put_A table_Purse_put_G
  refine Pack_spec h hf fun A1 h1 => place_eq ⟨hr.1, by omega⟩ hi ?_
  exact store_head h1 ht hi (pack_bits b0 b1 b2 b3 b4 b5 b6 b7 hf).2.2.2.2.2.2.2.2.2 fun A2 h2 => hk A2 h2
/-- A frame's bytes struck. -/
def zeroM (M : Int → Int) (f : Int) : Int → Int := fun c => if f * 4096 ≤ c ∧ c < f * 4096 + 4096 then 0 else M c
theorem pm_del (pm : Pm) (f : Int) (nd : (pm.map (·.1)).Nodup) : delM (pmMap pm) f = pmMap (pm.filter fun p => p.1 != f) := by
  induction pm with
  | nil => rfl
  | cons p pm ih =>
    simp only [List.map_cons, List.nodup_cons] at nd
    simp only [pmMap, List.map_cons, delM] at ih ⊢
    by_cases e : p.1 = f
    · rw [if_pos e]
      have : (p :: pm).filter (fun p => p.1 != f) = pm := by
        rw [List.filter_cons, if_neg (by simp [e])]
        rw [List.filter_eq_self]
        intro q hq
        simp
        intro g
        exact nd.1 (List.mem_map.2 ⟨q, hq, by rw [g, e]⟩)
      rw [this]
    · rw [if_neg e, ih nd.2, List.filter_cons, if_pos (by simpa using e)]
      rfl
theorem pages_zero {pm : Pm} {f : Int} (hf : ∀ p ∈ pm, p.1 ≠ f) : PagesAt (zeroM M f) pm = PagesAt M pm := by
  unfold PagesAt
  apply List.map_congr_left
  intro p hp
  have : pageCells (zeroM M f) p.1 = pageCells M p.1 := by
    unfold pageCells
    apply List.map_congr_left
    intro i hi
    have hi : i < 4096 := by simpa using hi
    unfold zeroM
    rw [if_neg (by have := hf p hp; omega)]
  rw [this]
theorem Zero_head {t : Int} {Q : Int → AH → Prop} (h : Own (RamW r fr hs W :: R) A) (ht : hasF fr hs t = true) (hk : ∀ A', Own (RamW r fr hs (zeroW W t) :: R) A' → Q 0 A') : ram_RAM_Zero_A (some ⟨r, 0, none⟩) t Q A := by
  obtain ⟨M, ⟨h1, h2⟩, hh⟩ := RamW.openH h
  unfold ram_RAM_Zero_A ram_RAM_Zero_G
  refine Has_spec (i := 0) hh rfl h1.holes (bsel_f (by rw [ht]; rfl) ?_)
  obtain ⟨s, h⟩ := Own.ex hh
  obtain ⟨mb, h⟩ := Own.ex h
  obtain ⟨pm, h⟩ := Own.ex h
  obtain ⟨ok, h⟩ := Own.pure h
  have hR : Own (ramL r fr hs s mb M pm ++ R) A := Own.flat h
  rw [show onSome (some (⟨r, 0, none⟩ : Addr)) = fun f => f ⟨r, 0, none⟩ from rfl]
  simp only [add_at]
  refine ld_M (i := 0) hR rfl rfl (dl_M (i := 2) hR rfl fun A' hA => hk A' ?_)
  rw [pm_del pm t ok.nodup] at hA
  have hA : Own (At r [.int .i64 fr, .slice s.a s.len s.cap, .map (some mb)] :: SlAt s 2 (holeCells hs) :: MapI mb .i64 (pmMap (pm.filter fun p => p.1 != t)) :: (PagesAt M pm ++ R)) A' := hA
  have hr := has_range ht h1.hi
  refine RamW.closeH (M := zeroM M t) h1 (fun t' i' q1 q2 q3 => ?_) ?_
  · unfold zeroW
    split
    · rename_i g
      subst g
      unfold wordAt
      have : le (zeroM M t') (t' * 4096 + 8 * i') 8 = le (fun _ => 0) (t' * 4096 + 8 * i') 8 := le_congr 8 _ fun c c1 c2 => by
        unfold zeroM
        rw [if_pos (by omega)]
      rw [this]; rfl
    · rename_i g
      rw [h2 t' i' q1 q2 q3]
      unfold wordAt
      refine le_congr 8 _ fun c c1 c2 => ?_
      unfold zeroM
      rw [if_neg (by omega)]
  · refine Own.imp (P := Own (ramL r fr hs s mb (zeroM M t) (pm.filter fun p => p.1 != t))) (fun B hB => ⟨s, mb, _, ⟨?_, fun a => ?_, fun a a0 a1 => ?_⟩, hB⟩) ?_
    · exact ok.nodup.sublist (List.filter_sublist.map _)
    · unfold zeroM
      split
      · omega
      · exact ok.byte a
    · unfold zeroM
      split
      · rfl
      · rename_i g
        refine ok.zero a a0 fun q => a1 ?_
        obtain ⟨p, hp, hpe⟩ := List.mem_map.1 q
        refine List.mem_map.2 ⟨p, List.mem_filter.2 ⟨hp, ?_⟩, hpe⟩
        simp
        omega
    · refine Own.app ?_
      unfold ramL
      rw [pages_zero (fun p hp => by simpa using (List.mem_filter.1 hp).2)]
      refine Own.sub ?_ hA
      show List.Sublist (_ :: _ :: _ :: (PagesAt M (pm.filter fun p => p.1 != t) ++ R)) _
      refine List.Sublist.cons_cons _ (List.Sublist.cons_cons _ (List.Sublist.cons_cons _ ?_))
      exact (List.filter_sublist.map _).append (List.Sublist.refl _)
end Go.Dn
/- A number's bits, one of which is turned or struck. -/
namespace Go.Dn

theorem pow_small {k : Nat} (hk : k ≤ 20) : (2 : Int) ^ k ≤ 1048576 ∧ (0 : Int) < 2 ^ k := by
  refine ⟨?_, Int.pow_pos (by omega)⟩
  have : (2 : Nat) ^ k ≤ 2 ^ 20 := Nat.pow_le_pow_right (by omega) hk
  have h2 : ((2 ^ k : Nat) : Int) ≤ ((2 ^ 20 : Nat) : Int) := Int.ofNat_le.2 this
  simpa using h2
theorem shl1 {k : Nat} (hk : k ≤ 20) (c : Int) (h0 : 0 ≤ c) (h1 : c ≤ 4) : IntKind.wrap .i64 (c * 2 ^ (min (Int.toNat (k : Int)) 64)) = c * 2 ^ k := by
  have := pow_small hk
  rw [show min (Int.toNat (k : Int)) 64 = k by omega]
  have h2 : c * 2 ^ k ≤ 4 * 1048576 := Int.mul_le_mul h1 this.1 (by omega) (by omega)
  have h3 : 0 ≤ c * 2 ^ k := Int.mul_nonneg h0 (by omega)
  rw [w64] <;> omega
theorem nxor1 (q : Nat) : q ^^^ 1 = if q % 2 = 0 then q + 1 else q - 1 := by
  have h1 : (q ^^^ 1) / 2 = q / 2 := by simpa using Nat.xor_div_two (a := q) (b := 1)
  have h2 : (q ^^^ 1) % 2 = (q + 1) % 2 := by
    have h3 : (q ^^^ 1) % 2 ^ 1 = (q % 2 ^ 1) ^^^ (1 % 2 ^ 1) := Nat.xor_mod_two_pow
    rcases Nat.mod_two_eq_zero_or_one q with h | h
    · simp only [Nat.pow_one, h] at h3
      have h3 : (q ^^^ 1) % 2 = 1 := h3
      omega
    · simp only [Nat.pow_one, h] at h3
      have h3 : (q ^^^ 1) % 2 = 0 := h3
      omega
  split <;> omega
theorem nxor (q k : Nat) : (2 ^ k * q) ^^^ 2 ^ k = if q % 2 = 0 then 2 ^ k * q + 2 ^ k else 2 ^ k * q - 2 ^ k := by
  have h : (2 ^ k * q) ^^^ 2 ^ k = 2 ^ k * (q ^^^ 1) := by
    have := Nat.shiftLeft_xor_distrib (a := q) (b := 1) (i := k)
    simp only [Nat.shiftLeft_eq, Nat.one_mul] at this
    rw [Nat.mul_comm, ← this, Nat.mul_comm]
  rw [h, nxor1]
  split
  · rw [Nat.mul_add, Nat.mul_one]
  · rw [Nat.mul_sub, Nat.mul_one]
theorem bits_xor {x y : Nat} (hx : x < 2 ^ 62) (hy : y < 2 ^ 62) : bits .xor .i64 x y = ((x ^^^ y : Nat) : Int) := by
  have h1 : x ^^^ y < 2 ^ 62 := Nat.xor_lt_two_pow hx hy
  have h2 : bits .xor .i64 x y = IntKind.wrap .i64 ((BitVec.ofInt 64 x ^^^ BitVec.ofInt 64 y).toNat : Int) := rfl
  rw [h2, BitVec.toNat_xor, BitVec.ofInt_natCast, BitVec.ofInt_natCast, BitVec.toNat_ofNat, BitVec.toNat_ofNat, Nat.mod_eq_of_lt (by omega), Nat.mod_eq_of_lt (by omega)]
  exact w64 (by omega) (by omega)
theorem xor_at {k : Nat} {q : Int} (hk : k ≤ 20) (h0 : 0 ≤ q) (h1 : 2 ^ k * q ≤ 2097152) : bits .xor .i64 (2 ^ k * q) (2 ^ k) = if q % 2 = 0 then 2 ^ k * q + 2 ^ k else 2 ^ k * q - 2 ^ k := by
  obtain ⟨q, rfl⟩ := Int.eq_ofNat_of_zero_le h0
  have hp := pow_small hk
  have e1 : ((2 : Int) ^ k * (q : Int)) = ((2 ^ k * q : Nat) : Int) := by simp
  have e2 : ((2 : Int) ^ k) = ((2 ^ k : Nat) : Int) := by simp
  rw [e1, e2, bits_xor (by omega) (by omega), nxor]
  rw [e1] at h1
  have e3 : ((q : Int) % 2 = 0) ↔ (q % 2 = 0) := by omega
  by_cases g : q % 2 = 0
  · rw [if_pos g, if_pos (e3.2 g)]; omega
  · rw [if_neg g, if_neg (fun h => g (e3.1 h))]
    have : 2 ^ k ≤ 2 ^ k * q := Nat.le_mul_of_pos_right _ (by omega)
    omega
theorem nand (q k : Nat) : (2 ^ k * q) &&& 2 ^ k = if q % 2 = 0 then 0 else 2 ^ k := by
  have h : (2 ^ k * q) &&& 2 ^ k = 2 ^ k * (q &&& 1) := by
    have := Nat.shiftLeft_and_distrib (a := q) (b := 1) (i := k)
    simp only [Nat.shiftLeft_eq, Nat.one_mul] at this
    rw [Nat.mul_comm, ← this, Nat.mul_comm]
  rw [h, Nat.and_one_is_mod]
  split
  · rename_i g; rw [g, Nat.mul_zero]
  · rw [show q % 2 = 1 by omega, Nat.mul_one]
theorem andNot_at {k : Nat} {q : Int} (hk : k ≤ 20) (h0 : 0 ≤ q) (h1 : 2 ^ k * q ≤ 2097152) : bits .andNot .i64 (2 ^ k * q) (2 ^ k) = if q % 2 = 0 then 2 ^ k * q else 2 ^ k * q - 2 ^ k := by
  obtain ⟨q, rfl⟩ := Int.eq_ofNat_of_zero_le h0
  have hp := pow_small hk
  have e1 : ((2 : Int) ^ k * (q : Int)) = ((2 ^ k * q : Nat) : Int) := by simp
  have e2 : ((2 : Int) ^ k) = ((2 ^ k : Nat) : Int) := by simp
  rw [e1] at h1
  rw [e1, e2]
  have h2 : bits .andNot .i64 ((2 ^ k * q : Nat) : Int) ((2 ^ k : Nat) : Int) = IntKind.wrap .i64 ((BitVec.ofInt 64 ((2 ^ k * q : Nat) : Int) &&& ~~~ BitVec.ofInt 64 ((2 ^ k : Nat) : Int)).toNat : Int) := rfl
  have hb : BitVec.ofInt 64 ((2 ^ k * q : Nat) : Int) &&& ~~~ BitVec.ofInt 64 ((2 ^ k : Nat) : Int) = BitVec.ofInt 64 ((2 ^ k * q : Nat) : Int) ^^^ (BitVec.ofInt 64 ((2 ^ k * q : Nat) : Int) &&& BitVec.ofInt 64 ((2 ^ k : Nat) : Int)) := by
    ext i hi
    simp
    cases (BitVec.ofInt 64 ((2 : Int) ^ k * (q : Int)))[i] <;> simp
  rw [h2, hb, BitVec.toNat_xor, BitVec.toNat_and, BitVec.ofInt_natCast, BitVec.ofInt_natCast, BitVec.toNat_ofNat, BitVec.toNat_ofNat, Nat.mod_eq_of_lt (by omega), Nat.mod_eq_of_lt (by omega), nand]
  have e3 : ((q : Int) % 2 = 0) ↔ (q % 2 = 0) := by omega
  by_cases g : q % 2 = 0
  · rw [if_pos g, if_pos (e3.2 g), Nat.xor_zero, w64] <;> omega
  · rw [if_neg g, if_neg (fun h => g (e3.1 h)), nxor, if_neg g]
    have : 2 ^ k ≤ 2 ^ k * q := Nat.le_mul_of_pos_right _ (by omega)
    rw [w64] <;> omega
end Go.Dn
/- Free frames as blocks of powers of two: what a block more or less makes of them. -/
namespace Go.Dn

def total (st : Nat → List Int) : Nat → Int
  | 0 => 0
  | k + 1 => total st k + (st k).length * 2 ^ k
def updF {α : Type} (st : Nat → α) (o : Nat) (l : α) : Nat → α := fun k => if k = o then l else st k
structure BOK (st : Nat → List Int) (F : Int → Prop) (n : Int) : Prop where
  rng : ∀ o a, o ≤ 10 → a ∈ st o → 0 ≤ a ∧ a + 2 ^ o ≤ 1048576 ∧ ∃ q, a = 2 ^ o * q
  nd : ∀ o, o ≤ 10 → (st o).Nodup
  apart : ∀ o a o' a' x, o ≤ 10 → o' ≤ 10 → a ∈ st o → a' ∈ st o' → a ≤ x → x < a + 2 ^ o → a' ≤ x → x < a' + 2 ^ o' → o = o' ∧ a = a'
  cov : ∀ x, F x ↔ ∃ o a, o ≤ 10 ∧ a ∈ st o ∧ a ≤ x ∧ x < a + 2 ^ o
  sum : n = total st 11

theorem two_pos (o : Nat) : (0 : Int) < 2 ^ o := Int.pow_pos (by omega)
theorem updF_same {α : Type} {st : Nat → α} {o : Nat} {l : α} : updF st o l o = l := if_pos rfl
theorem updF_ne {α : Type} {st : Nat → α} {o k : Nat} {l : α} (h : k ≠ o) : updF st o l k = st k := if_neg h
theorem total_upd (st : Nat → List Int) (o : Nat) (l : List Int) : ∀ k, total (updF st o l) k = total st k + if o < k then ((l.length : Int) - (st o).length) * 2 ^ o else 0
  | 0 => by simp [total]
  | k + 1 => by
    simp only [total, total_upd st o l k]
    by_cases e : k = o
    · subst e
      rw [updF_same, if_neg (by omega), if_pos (by omega), Int.sub_mul]
      omega
    · rw [updF_ne e]
      by_cases g : o < k
      · rw [if_pos g, if_pos (by omega)]; omega
      · rw [if_neg g, if_neg (by omega)]; omega
theorem total_nonneg (st : Nat → List Int) : ∀ k, 0 ≤ total st k
  | 0 => Int.le_refl _
  | k + 1 => by
    have := total_nonneg st k
    have h2 : (0 : Int) ≤ (st k).length * 2 ^ k := Int.mul_nonneg (by omega) (by have := two_pos k; omega)
    simp only [total]; omega
theorem total_zero {st : Nat → List Int} : ∀ k, (∀ o, o < k → st o = []) → total st k = 0
  | 0, _ => rfl
  | k + 1, h => by simp [total, total_zero k (fun o ho => h o (by omega)), h k (by omega)]
theorem total_le {st : Nat → List Int} {o : Nat} : ∀ k, o < k → ((st o).length : Int) * 2 ^ o ≤ total st k
  | 0, h => by omega
  | k + 1, h => by
    simp only [total]
    have h2 : (0 : Int) ≤ (st k).length * 2 ^ k := Int.mul_nonneg (by omega) (by have := two_pos k; omega)
    by_cases e : o = k
    · subst e; have := total_nonneg st o; omega
    · have := total_le (st := st) (o := o) k (by omega); omega
variable {st : Nat → List Int} {F F' : Int → Prop} {n : Int} {o : Nat} {a : Int}
theorem BOK.congr (h : BOK st F n) (hF : ∀ x, F x ↔ F' x) : BOK st F' n := ⟨h.rng, h.nd, h.apart, fun x => (hF x).symm.trans (h.cov x), h.sum⟩
theorem BOK.nonneg (h : BOK st F n) : 0 ≤ n := by rw [h.sum]; exact total_nonneg _ _
theorem BOK.free (h : BOK st F n) {x : Int} (hx : F x) : 0 ≤ x ∧ x < 1048576 := by
  obtain ⟨o, a, h1, h2, h3, h4⟩ := (h.cov x).1 hx
  have := h.rng o a h1 h2
  omega
theorem BOK.del (h : BOK st F n) (ho : o ≤ 10) (ha : a ∈ st o) : BOK (updF st o ((st o).erase a)) (fun x => F x ∧ ¬(a ≤ x ∧ x < a + 2 ^ o)) (n - 2 ^ o) := by
  have hsub : ∀ o' a', a' ∈ updF st o ((st o).erase a) o' → a' ∈ st o' := by
    intro o' a' h1
    by_cases e : o' = o
    · subst e; rw [updF_same] at h1; exact List.mem_of_mem_erase h1
    · rw [updF_ne e] at h1; exact h1
  refine ⟨fun o' a' h1 h2 => h.rng o' a' h1 (hsub o' a' h2), fun o' h1 => ?_, fun o1 a1 o2 a2 x h1 h2 h3 h4 => h.apart o1 a1 o2 a2 x h1 h2 (hsub _ _ h3) (hsub _ _ h4), fun x => ?_, ?_⟩
  · by_cases e : o' = o
    · subst e; rw [updF_same]; exact (h.nd o' h1).erase a
    · rw [updF_ne e]; exact h.nd o' h1
  · rw [h.cov x]
    constructor
    · rintro ⟨⟨o', a', h1, h2, h3, h4⟩, h5⟩
      refine ⟨o', a', h1, ?_, h3, h4⟩
      by_cases e : o' = o
      · subst e
        rw [updF_same]
        refine (List.mem_erase_of_ne fun e2 => ?_).2 h2
        subst e2
        exact h5 ⟨h3, h4⟩
      · rw [updF_ne e]; exact h2
    · rintro ⟨o', a', h1, h2, h3, h4⟩
      refine ⟨⟨o', a', h1, hsub _ _ h2, h3, h4⟩, fun ⟨h5, h6⟩ => ?_⟩
      obtain ⟨e1, e2⟩ := h.apart o' a' o a x h1 ho (hsub _ _ h2) ha h3 h4 h5 h6
      subst e1 e2
      rw [updF_same] at h2
      exact (h.nd o' h1).not_mem_erase h2
  · rw [total_upd, if_pos (by omega), h.sum, List.length_erase_of_mem ha]
    have : 0 < (st o).length := List.length_pos_of_mem ha
    have e : (((st o).length - 1 : Nat) : Int) - (st o).length = -1 := by omega
    rw [e]; omega
theorem BOK.add (h : BOK st F n) (ho : o ≤ 10) (h0 : 0 ≤ a ∧ a + 2 ^ o ≤ 1048576) (hq : ∃ q, a = 2 ^ o * q) (hF : ∀ x, a ≤ x → x < a + 2 ^ o → ¬F x) :
    a ∉ st o ∧ BOK (updF st o (st o ++ [a])) (fun x => F x ∨ (a ≤ x ∧ x < a + 2 ^ o)) (n + 2 ^ o) := by
  have hp := two_pos o
  have hno : a ∉ st o := fun hm => hF a (Int.le_refl _) (by omega) ((h.cov a).2 ⟨o, a, ho, hm, Int.le_refl _, by omega⟩)
  have hmem : ∀ o' a', a' ∈ updF st o (st o ++ [a]) o' ↔ a' ∈ st o' ∨ (o' = o ∧ a' = a) := by
    intro o' a'
    by_cases e : o' = o
    · subst e; rw [updF_same]; simp
    · rw [updF_ne e]; simp [e]
  refine ⟨hno, fun o' a' h1 h2 => ?_, fun o' h1 => ?_, fun o1 a1 o2 a2 x h1 h2 h3 h4 h5 h6 h7 h8 => ?_, fun x => ?_, ?_⟩
  · rcases (hmem o' a').1 h2 with h2 | ⟨rfl, rfl⟩
    · exact h.rng o' a' h1 h2
    · exact ⟨h0.1, h0.2, hq⟩
  · by_cases e : o' = o
    · subst e
      rw [updF_same]
      exact List.nodup_append.2 ⟨h.nd o' h1, by simp, fun x hx y hy => by simp at hy; subst hy; exact fun e => hno (e ▸ hx)⟩
    · rw [updF_ne e]; exact h.nd o' h1
  · rcases (hmem o1 a1).1 h3 with g3 | ⟨e1, e2⟩
    · rcases (hmem o2 a2).1 h4 with g4 | ⟨e1, e2⟩
      · exact h.apart o1 a1 o2 a2 x h1 h2 g3 g4 h5 h6 h7 h8
      · rw [e1, e2] at h8; rw [e2] at h7
        exact absurd ((h.cov x).2 ⟨o1, a1, h1, g3, h5, h6⟩) (hF x h7 h8)
    · rw [e1, e2] at h6; rw [e2] at h5
      rcases (hmem o2 a2).1 h4 with g4 | ⟨e3, e4⟩
      · exact absurd ((h.cov x).2 ⟨o2, a2, h2, g4, h7, h8⟩) (hF x h5 h6)
      · exact ⟨e1.trans e3.symm, e2.trans e4.symm⟩
  · rw [h.cov x]
    constructor
    · rintro (⟨o', a', h1, h2, h3, h4⟩ | ⟨h3, h4⟩)
      · exact ⟨o', a', h1, (hmem o' a').2 (.inl h2), h3, h4⟩
      · exact ⟨o, a, ho, (hmem o a).2 (.inr ⟨rfl, rfl⟩), h3, h4⟩
    · rintro ⟨o', a', h1, h2, h3, h4⟩
      rcases (hmem o' a').1 h2 with h2 | ⟨rfl, rfl⟩
      · exact .inl ⟨o', a', h1, h2, h3, h4⟩
      · exact .inr ⟨h3, h4⟩
  · rw [total_upd, if_pos (by omega), h.sum]
    have e : (((st o ++ [a]).length : Nat) : Int) - (st o).length = 1 := by simp; omega
    rw [e]; omega
theorem BOK.empty : BOK (fun _ => []) (fun _ => False) 0 := ⟨fun _ _ _ h => by simp at h, fun _ _ => List.nodup_nil, fun _ _ _ _ _ _ _ h => by simp at h, fun x => ⟨fun h => h.elim, fun ⟨_, _, _, h, _⟩ => by simp at h⟩, by rw [total_zero 11 fun _ _ => rfl]⟩

/-- Entries of maps that are sets. -/
def keysE (l : List Int) : List (Int × Value) := l.map fun a => (a, .bool true)
def givE (l : List Int) : List (Int × Value) := l.map fun a => (a, .int .i64 0)
theorem keysE_lookup (c : Value) (l : List Int) (x : Int) : (l.map fun a => (a, c)).lookup x = if x ∈ l then some c else none := by
  induction l with
  | nil => rfl
  | cons y l ih =>
    simp only [List.map_cons, List.lookup]
    by_cases e : x = y
    · subst e; simp
    · have : (x == y) = false := by simpa using e
      rw [this, ih]
      simp [e]
end Go.Dn
/- The frames that are free: what each call makes of them. -/
namespace Go.Dn

variable {A : AH} {l R : List SP} {b g : Nat} {mb : Nat → Nat} {st : Nat → List Int} {gl : List Int} {n : Int} {F G : Int → Prop}
def bcells (mb : Nat → Nat) (g : Nat) (n : Int) : List Value := (List.range 11).map (fun i => .map (some (mb i))) ++ [.map (some g), .int .i64 n]
def frees (mb : Nat → Nat) (st : Nat → List Int) : List SP := (List.range 11).map fun i => MapI (mb i) .i64 (keysE (st i))
def budL (b : Nat) (mb : Nat → Nat) (g : Nat) (st : Nat → List Int) (gl : List Int) (n : Int) : List SP := At b (bcells mb g n) :: MapI g .i64 (givE gl) :: frees mb st
structure GOK (gl : List Int) (F G : Int → Prop) : Prop where
  nodup : gl.Nodup
  mem : ∀ x, G x ↔ x ∈ gl
  apart : ∀ x, G x → ¬F x ∧ 0 ≤ x ∧ x < 1048576
/-- Frames: which are free, which are given, one by one; how many are free. -/
def Bud (b : Nat) (F G : Int → Prop) (n : Int) : SP := fun B => ∃ mb g st gl, BOK st F n ∧ GOK gl F G ∧ n + gl.length ≤ 1048576 ∧ Own (budL b mb g st gl n) B

theorem bcells_map {k : Nat} (hk : k ≤ 10) : (bcells mb g n)[k]? = some (.map (some (mb k))) := by
  unfold bcells
  rw [List.getElem?_append_left (by simp; omega), List.getElem?_map, List.getElem?_range (by omega)]
  rfl
theorem frees_at {k : Nat} (hk : k ≤ 10) : (budL b mb g st gl n ++ R)[2 + k]? = some (MapI (mb k) .i64 (keysE (st k))) := by
  rw [List.getElem?_append_left (by simp [budL, frees]; omega)]
  rw [Nat.add_comm]
  simp only [budL, frees, List.getElem?_cons_succ, List.getElem?_map]
  rw [List.getElem?_range (by omega)]
  rfl
theorem frees_set {k : Nat} (hk : k ≤ 10) (x : List Int) : (budL b mb g st gl n ++ R).set (2 + k) (MapI (mb k) .i64 (keysE x)) = budL b mb g (updF st k x) gl n ++ R := by
  rw [List.set_append_left _ _ (by simp [budL, frees]; omega)]
  congr 1
  rw [Nat.add_comm]
  simp only [budL, List.set_cons_succ]
  congr 2
  apply List.ext_getElem?
  intro i
  rw [List.getElem?_set]
  by_cases e : k = i
  · subst e
    rw [if_pos rfl, if_pos (by simp [frees]; omega)]
    simp only [frees, List.getElem?_map]
    rw [List.getElem?_range (by omega)]
    simp [updF_same]
  · rw [if_neg e]
    simp only [frees, List.getElem?_map]
    cases hi : (List.range 11)[i]? with
    | none => rfl
    | some j =>
      have : j = i := by
        have := List.getElem?_eq_some_iff.1 hi
        obtain ⟨h1, h2⟩ := this
        simpa using h2.symm
      subst this
      simp [updF_ne (Ne.symm e)]
theorem ld_free {k : Nat} {K : Option Nat → Prop} (hk : k ≤ 10) (h : Own (budL b mb g st gl n ++ R) A) (hK : K (some (mb k))) : aM (Addr.add ⟨b, 0, none⟩ (Int.toNat (k : Int) * 1)) A K := by
  rw [add_at]
  refine ld_M (i := 0) h rfl ?_ hK
  rw [show 0 + Int.toNat (k : Int) * 1 = k by omega]
  exact bcells_map hk
theorem delM_keys (c : Value) (l : List Int) (x : Int) : delM (l.map fun a => (a, c)) x = (l.erase x).map fun a => (a, c) := by
  induction l with
  | nil => rfl
  | cons y l ih =>
    simp only [List.map_cons, delM]
    by_cases e : y = x
    · subst e; simp
    · rw [if_neg e, List.erase_cons_tail (by simpa using e), ih, List.map_cons]
theorem putM_keys (c : Value) (l : List Int) (x : Int) (hx : x ∉ l) : putM (l.map fun a => (a, c)) x c = (l ++ [x]).map fun a => (a, c) := by
  induction l with
  | nil => rfl
  | cons y l ih =>
    simp only [List.mem_cons, not_or] at hx
    simp only [List.map_cons, putM]
    rw [if_neg (Ne.symm hx.1), ih hx.2]
    rfl
theorem lk_free {k : Nat} {x : Int} {K : Option Value → Prop} (hk : k ≤ 10) (h : Own (budL b mb g st gl n ++ R) A) (hK : K (if x ∈ st k then some (.bool true) else none)) : aLk A (some (mb k)) .i64 x K := by
  refine lk_M (i := 2 + k) h (frees_at hk) ?_
  unfold keysE
  rw [keysE_lookup]; exact hK
theorem dl_free {k : Nat} {x : Int} {K : AP} (hk : k ≤ 10) (h : Own (budL b mb g st gl n ++ R) A) (hK : ∀ A', Own (budL b mb g (updF st k ((st k).erase x)) gl n ++ R) A' → K A') : aMDl A (some (mb k)) .i64 x K := by
  refine dl_M (i := 2 + k) h (frees_at hk) fun A' h' => hK A' ?_
  have : delM (keysE (st k)) x = keysE ((st k).erase x) := delM_keys _ _ _
  rw [this, frees_set hk] at h'
  exact h'
theorem st_free {k : Nat} {x : Int} {K : AP} (hk : k ≤ 10) (hx : x ∉ st k) (h : Own (budL b mb g st gl n ++ R) A) (hK : ∀ A', Own (budL b mb g (updF st k (st k ++ [x])) gl n ++ R) A' → K A') : aMSt A (some (mb k)) .i64 x (.bool true) K := by
  refine st_M (i := 2 + k) h (frees_at hk) fun A' h' => hK A' ?_
  have : putM (keysE (st k)) x (.bool true) = keysE (st k ++ [x]) := putM_keys _ _ _ hx
  rw [this, frees_set hk] at h'
  exact h'

/-- A block that is free again. -/
theorem add_raw {k : Nat} {a c : Int} {F' : Int → Prop} {Q : AH → Prop} (h : Own (budL b mb g st gl n ++ R) A) (hk : k ≤ 10) (hb : BOK st F' c) (h0 : 0 ≤ a ∧ a + 2 ^ k ≤ 1048576) (hq : ∃ q, a = 2 ^ k * q)
    (hF : ∀ x, a ≤ x → x < a + 2 ^ k → ¬F' x)
    (hQ : ∀ st' A', BOK st' (fun x => F' x ∨ (a ≤ x ∧ x < a + 2 ^ k)) (c + 2 ^ k) → Own (budL b mb g st' gl n ++ R) A' → Q A') : buddy_Buddy_add_A (some ⟨b, 0, none⟩) a k Q A := by
  unfold buddy_Buddy_add_A
  refine ⟨fun x y m h' => ∃ (k' : Nat) (st' : Nat → List Int) (F2 : Int → Prop) (c' : Int), y = k' ∧ k' ≤ 10 ∧ m = 10 - k' ∧ BOK st' F2 c' ∧ 0 ≤ x ∧ x + 2 ^ k' ≤ 1048576 ∧ (∃ q, x = 2 ^ k' * q) ∧
    (∀ z, x ≤ z → z < x + 2 ^ k' → ¬F2 z) ∧ (∀ z, (F2 z ∨ (x ≤ z ∧ z < x + 2 ^ k')) ↔ (F' z ∨ (a ≤ z ∧ z < a + 2 ^ k))) ∧ c' + 2 ^ k' = c + 2 ^ k ∧ Own (budL b mb g st' gl n ++ R) h',
    ⟨_, k, st, F', c, rfl, hk, rfl, hb, h0.1, h0.2, hq, hF, fun _ => Iff.rfl, rfl, h⟩, ?_⟩
  intro x y m h' ⟨k', st', F2, c', e1, e2, e3, e4, e5, e6, ⟨q, e7⟩, e8, e9, e10, e11⟩
  subst e1 e3
  have hp := pow_small (k := k') (by omega)
  have fin : ∀ A', (x ∉ st' k' → Own (budL b mb g (updF st' k' (st' k' ++ [x])) gl n ++ R) A') → Q A' := by
    intro A' hA
    obtain ⟨g1, g2⟩ := e4.add e2 ⟨e5, e6⟩ ⟨q, e7⟩ e8
    refine hQ _ A' ?_ (hA g1)
    rw [← e10]
    exact g2.congr e9
  have hno : x ∉ st' k' := (e4.add e2 ⟨e5, e6⟩ ⟨q, e7⟩ e8).1
  have last : onSome (some (⟨b, 0, none⟩ : Addr)) fun a14 => inB (k' : Int) 11 (aM (Addr.add a14 (Int.toNat (k' : Int) * 1)) h' fun mp15 => aMSt h' mp15 .i64 x (.bool true) fun h16 => Q h16) :=
    inB_in (by omega) (by omega) (ld_free e2 e11 (st_free e2 hno e11 fun A' hA => fin A' fun _ => hA))
  refine bsel_in (fun hc => ?_) fun _ => last
  have hc : k' < 10 := by simp at hc; omega
  refine inB_in (by omega) (by omega) (ld_free e2 e11 ?_)
  refine bsel_f (by simp) ?_
  rw [shl1 (by omega) 1 (by omega) (by omega), Int.one_mul]
  have q0 : 0 ≤ q := by
    rcases Int.lt_or_le q 0 with g | g
    · have := Int.mul_neg_of_pos_of_neg hp.2 g; omega
    · exact g
  have hx : bits .xor .i64 x (2 ^ k') = if q % 2 = 0 then x + 2 ^ k' else x - 2 ^ k' := by
    rw [e7, xor_at (by omega) q0 (by omega)]
  have hn : bits .andNot .i64 x (2 ^ k') = if q % 2 = 0 then x else x - 2 ^ k' := by
    rw [e7, andNot_at (by omega) q0 (by omega)]
  refine lk_free e2 e11 ?_
  by_cases hm : bits .xor .i64 x (2 ^ k') ∈ st' k'
  · rw [if_pos hm]
    refine ⟨true, rfl, bsel_t rfl (inB_in (by omega) (by omega) (ld_free e2 e11 (bsel_f (by simp) (dl_free e2 e11 fun A' hA => bsel_f (by simp) ?_))))⟩
    have hd := e4.del e2 hm
    obtain ⟨r1, r2, _⟩ := e4.rng k' _ e2 hm
    rw [w64 (by omega) (by omega)]
    have hs : (2 : Int) ^ (k' + 1) = 2 ^ k' * 2 := Int.pow_succ _ _
    have hsub : ∀ z, bits .xor .i64 x (2 ^ k') ≤ z → z < bits .xor .i64 x (2 ^ k') + 2 ^ k' → F2 z := fun z z1 z2 => (e4.cov z).2 ⟨k', _, e2, hm, z1, z2⟩
    refine ⟨10 - (k' + 1), by omega, k' + 1, _, _, _, by omega, by omega, rfl, hd, ?_, ?_, ⟨q / 2, ?_⟩, ?_, ?_, ?_, hA⟩
    · rw [hn]; split
      · omega
      · rename_i g; rw [hx, if_neg g] at r1; omega
    · rw [hn, hs]; split
      · rename_i g; rw [hx, if_pos g] at r2; omega
      · omega
    · rw [hn, hs, Int.mul_assoc]
      split
      · rename_i g; rw [show 2 * (q / 2) = q by omega, e7]
      · rename_i g; rw [show 2 * (q / 2) = q - 1 by omega, Int.mul_sub, Int.mul_one, e7]
    · intro z z1 z2 ⟨z3, z4⟩
      rw [hn] at z1 z2
      rw [hx] at z4
      rw [hs] at z2
      by_cases g : q % 2 = 0
      · rw [if_pos g] at z1 z2 z4
        exact e8 z z1 (by omega) z3
      · rw [if_neg g] at z1 z2 z4
        exact e8 z (by omega) (by omega) z3
    · intro z
      rw [← e9 z]
      rw [hn, hx, hs]
      rw [hx] at hsub
      have hs2 := hsub z
      by_cases g : q % 2 = 0
      · rw [if_pos g] at hs2 ⊢; rw [if_pos g]
        constructor
        · rintro (⟨z1, _⟩ | ⟨z1, z2⟩)
          · exact .inl z1
          · by_cases w : z < x + 2 ^ k'
            · exact .inr ⟨z1, w⟩
            · exact .inl (hs2 (by omega) (by omega))
        · rintro (z1 | ⟨z1, z2⟩)
          · by_cases w : x + 2 ^ k' ≤ z ∧ z < x + 2 ^ k' + 2 ^ k'
            · exact .inr ⟨by omega, by omega⟩
            · exact .inl ⟨z1, w⟩
          · exact .inr ⟨by omega, by omega⟩
      · rw [if_neg g] at hs2 ⊢; rw [if_neg g]
        constructor
        · rintro (⟨z1, _⟩ | ⟨z1, z2⟩)
          · exact .inl z1
          · by_cases w : x ≤ z
            · exact .inr ⟨w, by omega⟩
            · exact .inl (hs2 (by omega) (by omega))
        · rintro (z1 | ⟨z1, z2⟩)
          · by_cases w : x - 2 ^ k' ≤ z ∧ z < x - 2 ^ k' + 2 ^ k'
            · exact .inr ⟨by omega, by omega⟩
            · exact .inl ⟨z1, w⟩
          · exact .inr ⟨by omega, by omega⟩
    · rw [hs]; omega
  · rw [if_neg hm]
    exact ⟨false, rfl, bsel_f rfl last⟩

theorem Bud.openH (h : Own (Bud b F G n :: R) A) : ∃ mb g st gl, BOK st F n ∧ GOK gl F G ∧ n + gl.length ≤ 1048576 ∧ Own (budL b mb g st gl n ++ R) A := by
  obtain ⟨mb, h⟩ := Own.ex h
  obtain ⟨g, h⟩ := Own.ex h
  obtain ⟨st, h⟩ := Own.ex h
  obtain ⟨gl, h⟩ := Own.ex h
  obtain ⟨h1, h⟩ := Own.pure h
  obtain ⟨h2, h⟩ := Own.pure h
  obtain ⟨h3, h⟩ := Own.pure h
  exact ⟨mb, g, st, gl, h1, h2, h3, Own.flat h⟩
theorem Bud.closeH (h1 : BOK st F n) (h2 : GOK gl F G) (h3 : n + gl.length ≤ 1048576) (h : Own (budL b mb g st gl n ++ R) A) : Own (Bud b F G n :: R) A :=
  h.app.imp fun _ hB => ⟨mb, g, st, gl, h1, h2, h3, hB⟩
theorem bcells_g : (bcells mb g n)[11]? = some (.map (some g)) := rfl
theorem bcells_n : (bcells mb g n)[12]? = some (.int .i64 n) := rfl
theorem bcells_set (x : Int) : (bcells mb g n).set 12 (.int .i64 x) = bcells mb g x := rfl
theorem ld_giv {K : Option Nat → Prop} (h : Own (budL b mb g st gl n ++ R) A) (hK : K (some g)) : aM (Addr.add ⟨b, 0, none⟩ 11) A K := by
  rw [add_at]; exact ld_M (i := 0) h rfl bcells_g hK
theorem ld_cnt {K : Int → Prop} (h : Own (budL b mb g st gl n ++ R) A) (hK : K n) : aI .i64 (Addr.add ⟨b, 0, none⟩ 12) A K := by
  rw [add_at]; exact ld_I (i := 0) h rfl bcells_n hK
theorem st_cnt {x : Int} {K : AP} (h : Own (budL b mb g st gl n ++ R) A) (hK : ∀ A', Own (budL b mb g st gl x ++ R) A' → K A') : aC (Addr.add ⟨b, 0, none⟩ 12) (.int .i64 x) A K := by
  rw [add_at]
  exact st_C (i := 0) h rfl rfl rfl fun A' h' => hK A' h'
theorem Give_head {f : Int} {Q : Int → AH → Prop} (h : Own (Bud b F G n :: R) A) (hf : G f) (hk : ∀ A', Own (Bud b (fun x => F x ∨ x = f) (fun x => G x ∧ x ≠ f) (n + 1) :: R) A' → Q 0 A') : buddy_Buddy_Give_A (some ⟨b, 0, none⟩) f Q A := by
  obtain ⟨mb, g, st, gl, h1, h2, h3, h⟩ := Bud.openH h
  have hm := (h2.mem f).1 hf
  obtain ⟨f1, f2, f3⟩ := h2.apart f hf
  have hn := h1.nonneg
  have hl : 0 < gl.length := List.length_pos_of_mem hm
  unfold buddy_Buddy_Give_A buddy_Buddy_Give_G
  refine ld_giv h ?_
  refine lk_M (i := 1) h rfl ?_
  unfold givE
  rw [keysE_lookup, if_pos hm]
  refine ⟨0, rfl, bsel_f rfl ?_⟩
  refine ld_giv h (dl_M (i := 1) h rfl fun A1 hA1 => ?_)
  have e1 : delM (givE gl) f = givE (gl.erase f) := delM_keys _ _ _
  rw [e1] at hA1
  have hA1 : Own (budL b mb g st (gl.erase f) n ++ R) A1 := hA1
  refine ld_cnt hA1 (bsel_f rfl (st_cnt hA1 fun A2 hA2 => ?_))
  have e2 : IntKind.wrap .i64 (n + IntKind.wrap .i64 ((1 : Int) * 2 ^ (min (Int.toNat 0) 64))) = n + 1 := by
    rw [show IntKind.wrap .i64 ((1 : Int) * 2 ^ (min (Int.toNat 0) 64)) = 1 from rfl, w64] <;> omega
  rw [e2] at hA2
  show buddy_Buddy_add_A _ f ((0 : Nat) : Int) _ A2
  refine add_raw hA2 (by omega) h1 ⟨f2, by simp; omega⟩ ⟨f, by simp⟩ (fun x z1 z2 => ?_) fun st' A3 hB hA3 => ?_
  · have : x = f := by simp at z2; omega
    rw [this]; exact f1
  · have e3 : (gl.erase f).length = gl.length - 1 := List.length_erase_of_mem hm
    refine hk A3 (Bud.closeH (gl := gl.erase f) (n := n + 1) (hB.congr fun x => ?_) ⟨h2.nodup.erase f, fun x => ?_, fun x hx => ?_⟩ (by rw [e3]; omega) hA3)
    · constructor
      · rintro (z | ⟨z1, z2⟩)
        · exact .inl z
        · right; simp at z2; omega
      · rintro (z | z)
        · exact .inl z
        · right; simp; omega
    · rw [h2.nodup.mem_erase_iff, h2.mem x]; exact ⟨fun h => ⟨h.2, h.1⟩, fun h => ⟨h.2, h.1⟩⟩
    · obtain ⟨g1, g2⟩ := h2.apart x hx.1
      exact ⟨fun h => h.elim g1 hx.2, g2⟩
theorem Free_head {Q : Int → AH → Prop} (h : Own (Bud b F G n :: R) A) (hk : Q n A) : buddy_Buddy_Free_A (some ⟨b, 0, none⟩) Q A := by
  obtain ⟨mb, g, st, gl, h1, h2, h3, h⟩ := Bud.openH h
  exact ld_cnt h hk
theorem Min_spec {k : Nat} {s : Sl} {ss : List Int} {Q : Int → AH → Prop} (h : Own l A) (e : l[k]? = some (SlAt s 1 (ss.map (.int .i64)))) (hne : ss ≠ []) (hlen : ss.length < 9223372036854775807) (hk : ∀ x ∈ ss, Q x A) : slices_Min_int_int_A s Q A := by
  have hl : s.len = ss.length := by have := sl_len h e; simpa using this
  have hp : 0 < ss.length := List.length_pos_iff.2 hne
  have cell : ∀ j x, ss[j]? = some x → ∃ b o, s.a = some ⟨b, o, none⟩ ∧ cellA A ⟨b, o + j, none⟩ = some (.int .i64 x) := fun j x hx => sl_cell h e (j := j) (v := .int .i64 x) (by simp [hx])
  unfold slices_Min_int_int_A
  refine ⟨fun h' => h' = A, ?_, bsel_f (by simp [hl]; omega) rfl⟩
  intro h' e1
  subst e1
  obtain ⟨x0, hx0⟩ : ∃ x, ss[0]? = some x := ⟨ss[0], by simp⟩
  obtain ⟨b0, o0, c1, c2⟩ := cell 0 x0 hx0
  rw [c1]
  refine inB_in (by omega) (by omega) ⟨x0, by simpa using c2, ?_⟩
  refine ⟨fun x y m h2 => ∃ j : Nat, y = j ∧ j ≤ ss.length ∧ m = ss.length - j ∧ x ∈ ss ∧ h2 = h', ⟨_, 1, rfl, by omega, rfl, List.mem_of_getElem? hx0, rfl⟩, ?_⟩
  intro x y m h2 ⟨j, q1, q2, q3, q4, q5⟩
  subst q1 q3 q5
  refine bsel_in (fun c => ?_) fun c => hk x q4
  have c : j < ss.length := by simp [hl] at c; omega
  obtain ⟨y, hy⟩ : ∃ y, ss[j]? = some y := ⟨ss[j], by simp [c]⟩
  obtain ⟨b1, o1, d1, d2⟩ := cell j y hy
  rw [c1] at d1
  cases d1
  refine inB_in (by omega) (by omega) ⟨y, by rw [add_at]; simpa using d2, ss.length - (j + 1), by omega, j + 1, by rw [w64] <;> omega, by omega, rfl, ?_, rfl⟩
  split
  · exact List.mem_of_getElem? hy
  · exact q4
theorem wf64 {x : Int} (h0 : -9223372036854775808 ≤ x) (h1 : x < 9223372036854775808) : (Lit.int .i64 x).wf = true := by
  have e1 : IntKind.min .i64 = -9223372036854775808 := rfl
  have e2 : IntKind.max .i64 = 9223372036854775807 := rfl
  simp [Lit.wf, e1, e2]
  omega
theorem pow_mono {j k : Nat} (h : k ≤ j) : (2 : Int) ^ k ≤ 2 ^ j := by
  have : (2 : Nat) ^ k ≤ 2 ^ j := Nat.pow_le_pow_right (by omega) h
  have h2 : ((2 ^ k : Nat) : Int) ≤ ((2 ^ j : Nat) : Int) := Int.ofNat_le.2 this
  simpa using h2
set_option maxHeartbeats 1000000 in
theorem Take_head {Q : Int → Int → AH → Prop} (h : Own (Bud b F G n :: R) A) (h0 : n = 0 → Q 0 7 A)
    (hk : n ≠ 0 → ∀ f A', F f → Own (Bud b (fun x => F x ∧ x ≠ f) (fun x => G x ∨ x = f) (n - 1) :: R) A' → Q f 0 A') : buddy_Buddy_Take_A (some ⟨b, 0, none⟩) 0 Q A := by
  obtain ⟨mb, g, st, gl, h1, h2, h3, h⟩ := Bud.openH h
  have hn := h1.nonneg
  unfold buddy_Buddy_Take_A buddy_Buddy_Take_G
  refine ⟨fun h' => h' = A, ?_, bsel_f rfl (bsel_f rfl rfl)⟩
  intro A0 e0
  subst e0
  refine ⟨fun x h' => h' = A0 ∧ ∃ j : Nat, x = j ∧ j ≤ 11 ∧ (∀ o, o < j → st o = []) ∧ (j ≤ 10 → st j ≠ []), ?_, fun x m h' => h' = A0 ∧ ∃ j : Nat, x = j ∧ j ≤ 11 ∧ m = 11 - j ∧ (∀ o, o < j → st o = []), ⟨_, rfl, 0, rfl, by omega, rfl, fun o ho => by omega⟩, ?_⟩
  rotate_left
  · intro x m h' ⟨e1, j, e2, e3, e4, e5⟩
    subst e1 e2 e4
    refine bsel_in (fun c => ?_) fun c => ⟨rfl, j, rfl, e3, e5, fun g => absurd c (by simp; omega)⟩
    have c : j ≤ 10 := by simp at c; omega
    refine inB_in (by omega) (by omega) (ld_free c h (ln_M (i := 2 + j) h (frees_at c) ?_))
    refine bsel_in (fun d => ?_) fun d => ⟨rfl, j, rfl, e3, e5, fun _ e => by simp [keysE, e] at d⟩
    have d : st j = [] := by
      apply List.length_eq_zero_iff.1
      simp [keysE] at d
      simp [d]
    refine ⟨11 - (j + 1), by omega, rfl, j + 1, by rw [w64] <;> omega, by omega, rfl, fun o ho => ?_⟩
    by_cases q : o = j
    · rw [q]; exact d
    · exact e5 o (by omega)
  intro x h' ⟨e1, j, e2, e3, e5, e6⟩
  subst e1 e2
  refine bsel_in (fun c => ?_) fun c => ?_
  · have c : j = 11 := by simp at c; omega
    subst c
    exact h0 (by rw [h1.sum]; exact total_zero 11 e5)
  have c : j ≤ 10 := by simp at c; omega
  have hne := e6 c
  have hpj := pow_small (k := j) (by omega)
  have hlen := total_le (st := st) (o := j) 11 (by omega)
  rw [← h1.sum] at hlen
  have hlp : 0 < (st j).length := List.length_pos_iff.2 hne
  have hn1 : n ≠ 0 := by
    have : (0 : Int) < (st j).length * 2 ^ j := Int.mul_pos (by omega) hpj.2
    omega
  have hl20 : ((st j).length : Int) ≤ 1048576 := by
    have : ((st j).length : Int) * 1 ≤ (st j).length * 2 ^ j := Int.mul_le_mul_of_nonneg_left (by omega) (by omega)
    omega
  refine inB_in (by omega) (by omega) (ld_free c h ?_)
  unfold maps_Keys_map_int_bool_int_bool_A
  show newA h' (.cells [Value.map (some (mb j))].toArray _) _
  refine new_C h fun kb A1 hA1 => ?_
  show clA 3 (some ⟨kb, 0, none⟩) _ A1
  refine cl_M (j := 0) (i := 2 + j + 1) hA1 rfl (frees_at c) (by simp [keysE]; omega) (fun p hp => ?_) (fun e => ?_) fun ss s A2 hs hsn hsl hA2 => ?_
  · obtain ⟨a, ha, rfl⟩ := List.mem_map.1 hp
    have := h1.rng j a c ha
    exact wf64 (by omega) (by omega)
  · exact absurd (by simpa [keysE] using e) hne
  have hss : ss.Perm (st j) := by
    have : (keysE (st j)).map (·.1) = st j := by unfold keysE; rw [List.map_map]; exact List.map_id' _
    rw [this] at hs; exact hs
  have hssl : ss.length = (st j).length := hss.length_eq
  refine Min_spec (k := 0) hA2 rfl hsn (by omega) fun a ha => ?_
  have ha := hss.mem_iff.1 ha
  have hA3 : Own (budL b mb g st gl n ++ R) A2 := hA2.tail.tail
  refine inB_in (by omega) (by omega) (ld_free c hA3 (dl_free c hA3 fun A4 hA4 => ?_))
  obtain ⟨r1, r2, q, r3⟩ := h1.rng j a c ha
  have hFa : ∀ x, a ≤ x → x < a + 2 ^ j → F x := fun x z1 z2 => (h1.cov x).2 ⟨j, a, c, ha, z1, z2⟩
  refine ⟨fun y m h' => ∃ (k : Nat) (st' : Nat → List Int), y = k ∧ k ≤ j ∧ k = m ∧ (∀ o, o < k → st' o = []) ∧ BOK st' (fun x => F x ∧ ¬(a ≤ x ∧ x < a + 2 ^ k)) (n - 2 ^ k) ∧ Own (budL b mb g st' gl n ++ R) h',
    ⟨_, j, _, rfl, Nat.le_refl _, rfl, fun o ho => by rw [updF_ne (by omega)]; exact e5 o ho, h1.del c ha, hA4⟩, ?_⟩
  intro y m A5 ⟨k, st', i1, i2, i3, i4, i5, i6⟩
  subst i1 i3
  refine bsel_in (fun d => ?_) fun d => ?_
  · have d : 0 < k := by simp at d; omega
    obtain ⟨k, rfl⟩ : ∃ k', k = k' + 1 := ⟨k - 1, by omega⟩
    have ek : IntKind.wrap .i64 (((k + 1 : Nat) : Int) - 1) = (k : Int) := by rw [w64] <;> omega
    rw [ek]
    have hk2 := pow_mono (j := j) (k := k + 1) i2
    have hs : (2 : Int) ^ (k + 1) = 2 ^ k * 2 := Int.pow_succ _ _
    have hpk := two_pos k
    refine inB_in (by omega) (by omega) (ld_free (by omega) i6 (bsel_f (by simp) ?_))
    rw [shl1 (by omega) 1 (by omega) (by omega), Int.one_mul, w64 (by omega) (by omega)]
    have hnil : st' k = [] := i4 k (by omega)
    refine st_free (by omega) (by rw [hnil]; simp) i6 fun A6 hA6 => ?_
    obtain ⟨_, hb⟩ := i5.add (o := k) (a := a + 2 ^ k) (by omega) ⟨by omega, by omega⟩ ⟨2 ^ (j - k) * q + 1, by
      rw [Int.mul_add, Int.mul_one, ← Int.mul_assoc, ← Int.pow_add, show k + (j - k) = j by omega, r3]⟩ (fun x z1 z2 ⟨_, z3⟩ => z3 ⟨by omega, by omega⟩)
    refine ⟨k, by omega, k, _, rfl, by omega, rfl, fun o ho => by rw [updF_ne (by omega)]; exact i4 o (by omega), ?_, hA6⟩
    rw [show n - 2 ^ k = n - 2 ^ (k + 1) + 2 ^ k by omega]
    refine hb.congr fun x => ?_
    rw [hs]
    constructor
    · rintro (⟨z1, z2⟩ | ⟨z1, z2⟩)
      · exact ⟨z1, fun z3 => z2 ⟨z3.1, by omega⟩⟩
      · exact ⟨hFa x (by omega) (by omega), fun z3 => by omega⟩
    · rintro ⟨z1, z2⟩
      by_cases w : a ≤ x ∧ x < a + 2 ^ k * 2
      · exact .inr ⟨by omega, by omega⟩
      · exact .inl ⟨z1, w⟩
  · have d : k = 0 := by simp at d; omega
    subst d
    have hFa0 : F a := hFa a (Int.le_refl _) (by omega)
    have hga : a ∉ gl := fun hm => (h2.apart a ((h2.mem a).2 hm)).1 hFa0
    have hr := h1.free hFa0
    refine ld_giv i6 (st_M (i := 1) i6 rfl fun A6 hA6 => ?_)
    have e1 : putM (givE gl) a (.int .i64 0) = givE (gl ++ [a]) := putM_keys _ _ _ hga
    rw [e1] at hA6
    have hA6 : Own (budL b mb g st' (gl ++ [a]) n ++ R) A6 := hA6
    refine ld_cnt hA6 (bsel_f rfl (st_cnt hA6 fun A7 hA7 => ?_))
    have e2 : IntKind.wrap .i64 (n - IntKind.wrap .i64 ((1 : Int) * 2 ^ (min (Int.toNat 0) 64))) = n - 1 := by
      rw [show IntKind.wrap .i64 ((1 : Int) * 2 ^ (min (Int.toNat 0) 64)) = 1 from rfl, w64] <;> omega
    rw [e2] at hA7
    have hb : BOK st' (fun x => F x ∧ x ≠ a) (n - 1) := by
      have := i5
      simp only [Int.pow_zero] at this
      refine this.congr fun x => ?_
      constructor
      · rintro ⟨z1, z2⟩; exact ⟨z1, fun z3 => z2 (by omega)⟩
      · rintro ⟨z1, z2⟩; exact ⟨z1, fun z3 => z2 (by omega)⟩
    refine hk hn1 a A7 hFa0 (Bud.closeH hb ⟨?_, fun x => ?_, fun x hx => ?_⟩ (by simp; omega) hA7)
    · exact List.nodup_append.2 ⟨h2.nodup, by simp, fun x hx y hy => by simp at hy; subst hy; exact fun e => hga (e ▸ hx)⟩
    · rw [List.mem_append, h2.mem x]; simp
    · rcases hx with hx | hx
      · obtain ⟨g1, g2⟩ := h2.apart x hx
        exact ⟨fun h => g1 h.1, g2⟩
      · rw [hx]; exact ⟨fun h => h.2 rfl, hr⟩
end Go.Dn
/- The frames that are free, made of ranges. -/
namespace Go.Dn

variable {A : AH} {l R : List SP} {b g : Nat} {mb : Nat → Nat} {st : Nat → List Int} {gl : List Int} {n : Int} {F G : Int → Prop}
theorem and_at {k : Nat} {q : Int} (hk : k ≤ 20) (h0 : 0 ≤ q) (h1 : 2 ^ k * q ≤ 2097152) : (bits .and .i64 (2 ^ k * q) (2 ^ k) == (0 : Int)) = decide (q % 2 = 0) := by
  obtain ⟨q, rfl⟩ := Int.eq_ofNat_of_zero_le h0
  have hp := pow_small hk
  have e1 : ((2 : Int) ^ k * (q : Int)) = ((2 ^ k * q : Nat) : Int) := by simp
  have e2 : ((2 : Int) ^ k) = ((2 ^ k : Nat) : Int) := by simp
  rw [e1] at h1
  rw [e1, e2]
  have h2 : bits .and .i64 ((2 ^ k * q : Nat) : Int) ((2 ^ k : Nat) : Int) = IntKind.wrap .i64 ((BitVec.ofInt 64 ((2 ^ k * q : Nat) : Int) &&& BitVec.ofInt 64 ((2 ^ k : Nat) : Int)).toNat : Int) := rfl
  rw [h2, BitVec.toNat_and, BitVec.ofInt_natCast, BitVec.ofInt_natCast, BitVec.toNat_ofNat, BitVec.toNat_ofNat, Nat.mod_eq_of_lt (by omega), Nat.mod_eq_of_lt (by omega), nand]
  have e3 : ((q : Int) % 2 = 0) ↔ (q % 2 = 0) := by omega
  by_cases g : q % 2 = 0
  · rw [if_pos g, decide_eq_true (e3.2 g)]; rfl
  · rw [if_neg g, decide_eq_false (fun h => g (e3.1 h)), w64 (by omega) (by omega)]
    have : 0 < 2 ^ k := Nat.two_pow_pos k
    simp; omega
def rangeCells (rs : List (Int × Int)) : List Value := rs.flatMap fun p => [.int .i64 p.1, .int .i64 p.2]
theorem rangeCells_at : ∀ {hs : List (Int × Int)} {j : Nat} {p : Int × Int}, hs[j]? = some p → (rangeCells hs)[j * 2]? = some (.int .i64 p.1) ∧ (rangeCells hs)[j * 2 + 1]? = some (.int .i64 p.2)
  | [], _, _, e => by simp at e
  | q :: hs, 0, p, e => by simp at e; subst e; exact ⟨rfl, rfl⟩
  | q :: hs, j + 1, p, e => by
    have := rangeCells_at (hs := hs) (j := j) (p := p) (by simpa using e)
    rw [show (j + 1) * 2 = j * 2 + 1 + 1 by omega]
    exact this
theorem rangeCells_len (hs : List (Int × Int)) : (rangeCells hs).length = hs.length * 2 := by
  induction hs with
  | nil => rfl
  | cons p hs ih => simp only [rangeCells, List.flatMap_cons, List.length_append] at ih ⊢; rw [ih]; simp; omega
def okR : Int → List (Int × Int) → Bool
  | _, [] => true
  | last, r :: rs => !(decide (r.1 < last)) && !(decide (r.2 ≤ r.1)) && !(decide (r.2 > 1048576)) && okR r.2 rs
def inR (rs : List (Int × Int)) (x : Int) : Prop := ∃ r ∈ rs, r.1 ≤ x ∧ x < r.2
def sizeR : List (Int × Int) → Int
  | [] => 0
  | r :: rs => r.2 - r.1 + sizeR rs
theorem sizeR_le : ∀ (rs : List (Int × Int)) (last : Int), last ≤ 1048576 → okR last rs = true → 0 ≤ sizeR rs ∧ last + sizeR rs ≤ 1048576
  | [], last, h, _ => ⟨Int.le_refl _, by simp [sizeR]; omega⟩
  | r :: rs, last, h, hk => by
    simp only [okR, Bool.and_eq_true, Bool.not_eq_true', decide_eq_false_iff_not] at hk
    obtain ⟨⟨⟨h1, h2⟩, h3⟩, h4⟩ := hk
    have := sizeR_le rs r.2 (by omega) h4
    simp only [sizeR]
    omega
theorem okR_lo : ∀ (rs : List (Int × Int)) (last : Int), okR last rs = true → ∀ r ∈ rs, last ≤ r.1 ∧ r.1 < r.2 ∧ r.2 ≤ 1048576
  | [], _, _, r, h => by simp at h
  | p :: rs, last, hk, r, hr => by
    simp only [okR, Bool.and_eq_true, Bool.not_eq_true', decide_eq_false_iff_not] at hk
    obtain ⟨⟨⟨h1, h2⟩, h3⟩, h4⟩ := hk
    rcases List.mem_cons.1 hr with rfl | hr
    · omega
    · have := okR_lo rs p.2 h4 r hr; omega
theorem okR_app : ∀ (rs : List (Int × Int)) (last : Int) (j : Nat) (r : Int × Int), okR last rs = true → rs[j]? = some r → ∀ p ∈ rs.take j, p.2 ≤ r.1
  | [], _, _, _, _, h => by simp at h
  | p :: rs, last, 0, r, _, _ => by simp
  | p :: rs, last, j + 1, r, hk, hr => by
    simp only [okR, Bool.and_eq_true] at hk
    intro p' hp'
    simp only [List.take_succ_cons, List.mem_cons] at hp'
    have hr : rs[j]? = some r := by simpa using hr
    rcases hp' with rfl | hp'
    · exact (okR_lo rs _ hk.2 r (List.mem_of_getElem? hr)).1
    · exact okR_app rs p.2 j r hk.2 hr p' hp'
theorem sizeR_take : ∀ (rs : List (Int × Int)) (j : Nat) (r : Int × Int), rs[j]? = some r → sizeR (rs.take (j + 1)) = sizeR (rs.take j) + (r.2 - r.1)
  | [], _, _, h => by simp at h
  | p :: rs, 0, r, h => by simp at h; subst h; simp [sizeR]
  | p :: rs, j + 1, r, h => by
    have := sizeR_take rs j r (by simpa using h)
    simp only [List.take_succ_cons, sizeR, this]; omega
theorem sizeR_mono : ∀ (rs : List (Int × Int)) (j : Nat), (∀ r ∈ rs, r.1 < r.2) → 0 ≤ sizeR (rs.take j) ∧ sizeR (rs.take j) ≤ sizeR rs
  | [], _, _ => by simp [sizeR]
  | p :: rs, 0, h => by
    have h1 := sizeR_mono rs rs.length (fun r hr => h r (List.mem_cons_of_mem _ hr))
    have h2 := h p List.mem_cons_self
    rw [List.take_length] at h1
    simp only [List.take_zero, sizeR]; omega
  | p :: rs, j + 1, h => by
    have h1 := sizeR_mono rs j (fun r hr => h r (List.mem_cons_of_mem _ hr))
    have h2 := h p List.mem_cons_self
    simp only [List.take_succ_cons, sizeR]; omega

/-- One range's frames, in blocks. -/
def cellsJ (mb : Nat → Nat) (j g : Nat) : List Value := (List.range 11).map (fun i => .map (if i < j then some (mb i) else none)) ++ [.map (some g), .int .i64 0]
theorem cellsJ_11 : cellsJ mb 11 g = bcells mb g 0 := by
  rfl
theorem cellsJ_set {j v : Nat} (hj : j < 11) : (cellsJ mb j g).set j (.map (some v)) = cellsJ (updF mb j v) (j + 1) g := by
  unfold cellsJ
  rw [List.set_append_left _ _ (by simp; omega)]
  congr 1
  apply List.ext_getElem?
  intro i
  rw [List.getElem?_set]
  by_cases e : j = i
  · subst e
    rw [if_pos rfl, if_pos (by simp; omega), List.getElem?_map, List.getElem?_range hj]
    simp [updF_same]
  · rw [if_neg e, List.getElem?_map, List.getElem?_map]
    cases hi : (List.range 11)[i]? with
    | none => rfl
    | some q =>
      obtain ⟨h1, h2⟩ := List.getElem?_eq_some_iff.1 hi
      have : q = i := by simpa using h2.symm
      subst this
      simp only [Option.map_some]
      rw [updF_ne (Ne.symm e)]
      by_cases g : q < j
      · rw [if_pos g, if_pos (by omega)]
      · rw [if_neg g, if_neg (by omega)]
def newL (mb : Nat → Nat) (j : Nat) : List SP := (List.range j).map fun i => MapI (mb i) .i64 []
theorem newL_succ {j v : Nat} : newL (updF mb j v) (j + 1) = newL mb j ++ [MapI v .i64 []] := by
  unfold newL
  rw [List.range_succ, List.map_append]
  congr 1
  · apply List.map_congr_left
    intro i hi
    have : i < j := by simpa using hi
    rw [updF_ne (by omega)]
  · simp [updF_same]
theorem ld_range {P : SP} {k j : Nat} {s : Sl} {rs : List (Int × Int)} {r : Int × Int} {K : Int → Int → Prop} (h : Own l A) (e : l[k]? = some P) (hr : Reads P s 2 (rangeCells rs)) (hj : rs[j]? = some r) (hK : K r.1 r.2) :
    onSome s.a fun a => inB (j : Int) s.len (aI .i64 (Addr.add a (Int.toNat (j : Int) * 2)) A fun n8 => aI .i64 (Addr.add (Addr.add a (Int.toNat (j : Int) * 2)) 1) A fun n9 => K n8 n9) := by
  have hl : s.len = rs.length := by have := rd_len h e hr; rw [rangeCells_len] at this; omega
  have hjl := (List.getElem?_eq_some_iff.1 hj).1
  obtain ⟨q1, q2⟩ := rangeCells_at hj
  obtain ⟨b, o, c1, c2⟩ := rd_cell h e hr q1
  obtain ⟨b', o', c3, c4⟩ := rd_cell h e hr q2
  rw [c1] at c3
  cases c3
  rw [c1]
  refine inB_in (by omega) (by omega) ⟨r.1, ?_, r.2, ?_, hK⟩
  · rw [add_at]; simpa using c2
  · rw [add_at, add_at]; simpa [Nat.add_assoc] using c4
theorem inR_take {rs : List (Int × Int)} {j : Nat} {r : Int × Int} (hj : rs[j]? = some r) (x : Int) : inR (rs.take (j + 1)) x ↔ inR (rs.take j) x ∨ (r.1 ≤ x ∧ x < r.2) := by
  have : rs.take (j + 1) = rs.take j ++ [r] := by
    rw [List.take_add_one, hj]; rfl
  unfold inR
  rw [this]
  constructor
  · rintro ⟨p, hp, h1⟩
    rcases List.mem_append.1 hp with hp | hp
    · exact .inl ⟨p, hp, h1⟩
    · simp at hp; subst hp; exact .inr h1
  · rintro (⟨p, hp, h1⟩ | h1)
    · exact ⟨p, List.mem_append.2 (.inl hp), h1⟩
    · exact ⟨r, List.mem_append.2 (.inr (by simp)), h1⟩
set_option maxHeartbeats 1000000 in
theorem bNew_spec {P : SP} {k : Nat} {s : Sl} {rs : List (Int × Int)} {Q : Option Addr → Int → AH → Prop} (h : Own l A) (e : l[k]? = some P) (hr : Reads P s 2 (rangeCells rs))
    (h4 : rs.length > 64 → Q none 4 A) (h3 : rs.length ≤ 64 → okR 0 rs = false → Q none 3 A)
    (hk : rs.length ≤ 64 → okR 0 rs = true → ∀ b A', Own (Bud b (inR rs) (fun _ => False) (sizeR rs) :: l) A' → Q (some ⟨b, 0, none⟩) 0 A') : buddy_New_A s Q A := by
  have hl : s.len = rs.length := by have := rd_len h e hr; rw [rangeCells_len] at this; omega
  unfold buddy_New_A buddy_New_G
  refine bsel_in (fun c => h4 (by simp [hl] at c; omega)) fun c => ?_
  have c : rs.length ≤ 64 := by simp [hl] at c; omega
  refine ⟨fun x y m h' => h' = A ∧ ∃ j : Nat, y = j ∧ j ≤ rs.length ∧ rs.length - j = m ∧ okR 0 rs = okR x (rs.drop j), ⟨_, rfl, 0, rfl, by omega, rfl, by simp⟩, ?_⟩
  intro x y m h' ⟨e0, j, e1, e2, e3, e4⟩
  subst e0 e1 e3
  refine bsel_in (fun d => ?_) fun d => ?_
  · have d : j < rs.length := by simp [hl] at d; omega
    obtain ⟨r, hj⟩ : ∃ r, rs[j]? = some r := ⟨rs[j], by simp [d]⟩
    have hd : rs.drop j = r :: rs.drop (j + 1) := by
      rw [List.drop_eq_getElem_cons d]
      have := (List.getElem?_eq_some_iff.1 hj).2
      rw [this]
    rw [hd] at e4
    simp only [okR] at e4
    refine ld_range h e hr hj ?_
    refine bsel_in (fun g1 => h3 c (by rw [e4, g1]; rfl)) fun g1 => ?_
    refine bsel_in (fun g2 => h3 c (by rw [e4, g2]; simp)) fun g2 => ?_
    refine bsel_in (fun g3 => h3 c (by rw [e4, g3]; simp)) fun g3 => ?_
    exact ⟨rs.length - (j + 1), by omega, rfl, j + 1, by rw [w64] <;> omega, by omega, rfl, by rw [e4, g1, g2, g3]; rfl⟩
  have d : j = rs.length := by simp [hl] at d; omega
  have hok : okR 0 rs = true := by rw [e4, d, List.drop_length]; rfl
  clear e4
  refine new_M (k := .i64) h fun g A1 hA1 => ?_
  show newA A1 (.cells (cellsJ (fun _ => 0) 0 g).toArray _) _
  refine new_C hA1 fun b A2 hA2 => ?_
  refine ⟨fun x m h2 => ∃ (j : Nat) (mb : Nat → Nat), x = j ∧ j ≤ 11 ∧ 11 - j = m ∧ Own (At b (cellsJ mb j g) :: MapI g .i64 [] :: (newL mb j ++ l)) h2, ⟨_, 0, _, rfl, by omega, rfl, hA2⟩, ?_⟩
  intro x m A3 ⟨j, mb, i1, i2, i3, hA3⟩
  subst i1 i3
  refine bsel_in (fun d => ?_) fun d => ?_
  · have d : j < 11 := by simp at d; omega
    refine new_M (k := .i64) hA3 fun v A4 hA4 => ?_
    refine inB_in (by omega) (by omega) ?_
    rw [add_at]
    refine st_C (i := 1) hA4 rfl ?_ rfl fun A5 hA5 => ?_
    · rw [show 0 + Int.toNat (j : Int) * 1 = j by omega]
      unfold cellsJ
      rw [List.getElem?_append_left (by simp; omega), List.getElem?_map, List.getElem?_range d]
      rfl
    · rw [show 0 + Int.toNat (j : Int) * 1 = j by omega, cellsJ_set d] at hA5
      refine ⟨11 - (j + 1), by omega, j + 1, updF mb j v, by rw [w64] <;> omega, by omega, rfl, hA5.perm ?_⟩
      rw [newL_succ]
      show List.Perm (MapI v .i64 [] :: At b _ :: MapI g .i64 [] :: (newL mb j ++ l)) (At b _ :: MapI g .i64 [] :: (newL mb j ++ [MapI v .i64 []] ++ l))
      rw [List.append_assoc]
      exact (List.perm_middle (l₁ := At b _ :: MapI g .i64 [] :: newL mb j) (l₂ := l)).symm
  have d : j = 11 := by simp at d; omega
  subst d
  rw [cellsJ_11] at hA3
  have hA3 : Own (budL b mb g (fun _ => []) [] 0 ++ l) A3 := hA3
  have hlo := okR_lo rs 0 hok
  have hsz := sizeR_le rs 0 (by omega) hok
  refine ⟨fun x m h2 => ∃ (i : Nat) (st : Nat → List Int), x = i ∧ i ≤ rs.length ∧ rs.length - i = m ∧ BOK st (inR (rs.take i)) (sizeR (rs.take i)) ∧ Own (budL b mb g st [] (sizeR (rs.take i)) ++ l) h2,
    ⟨_, 0, _, rfl, by omega, rfl, BOK.empty.congr (fun x => by simp [inR]), hA3⟩, ?_⟩
  intro x m A4 ⟨i, st, i1, i2, i3, hB, hA4⟩
  subst i1 i3
  have ek : (budL b mb g st [] (sizeR (rs.take i)) ++ l)[13 + k]? = some P := by
    rw [List.getElem?_append_right (by simp [budL, frees])]
    rw [show 13 + k - (budL b mb g st [] (sizeR (rs.take i))).length = k by simp [budL, frees]]
    exact e
  refine bsel_in (fun d => ?_) fun d => ?_
  rotate_left
  · have d : i = rs.length := by simp [hl] at d; omega
    subst d
    rw [List.take_length] at hB hA4
    exact hk c hok b A4 (Bud.closeH hB ⟨List.nodup_nil, fun x => by simp, fun x hx => hx.elim⟩ (by simp; omega) hA4)
  have d : i < rs.length := by simp [hl] at d; omega
  obtain ⟨r, hj⟩ : ∃ r, rs[i]? = some r := ⟨rs[i], by simp [d]⟩
  obtain ⟨r1, r2, r3⟩ := hlo r (List.mem_of_getElem? hj)
  have hbef := okR_app rs 0 i r hok hj
  have hmono := sizeR_mono rs i (fun r hr => (hlo r hr).2.1)
  have hmono2 := sizeR_mono rs (i + 1) (fun r hr => (hlo r hr).2.1)
  have hst := sizeR_take rs i r hj
  refine ld_range hA4 ek hr hj ?_
  refine ⟨fun x m h2 => ∃ st, r.1 ≤ x ∧ x ≤ r.2 ∧ (r.2 - x).toNat = m ∧ BOK st (fun z => inR (rs.take i) z ∨ (r.1 ≤ z ∧ z < x)) (sizeR (rs.take i) + (x - r.1)) ∧ Own (budL b mb g st [] (sizeR (rs.take i)) ++ l) h2,
    ⟨_, st, Int.le_refl _, by omega, rfl, by rw [Int.sub_self, Int.add_zero]; exact hB.congr fun z => ⟨.inl, fun h => h.elim id fun h => by omega⟩, hA4⟩, ?_⟩
  intro x m A5 ⟨st5, j1, j2, j3, hB5, hA5⟩
  subst j3
  refine bsel_in (fun d5 => ?_) fun d5 => ?_
  rotate_left
  · have d5 : x = r.2 := by simp at d5; omega
    subst d5
    refine ld_cnt hA5 (st_cnt hA5 fun A6 hA6 => ?_)
    have e6 : IntKind.wrap .i64 (sizeR (rs.take i) + IntKind.wrap .i64 (r.2 - r.1)) = sizeR (rs.take (i + 1)) := by
      rw [hst, w64 (n := r.2 - r.1) (by omega) (by omega), w64 (by omega) (by omega)]
    rw [e6] at hA6
    rw [← hst] at hB5
    exact ⟨rs.length - (i + 1), by omega, i + 1, st5, by rw [w64] <;> omega, by omega, rfl, hB5.congr fun z => (inR_take hj z).symm, hA6⟩
  have d5 : x < r.2 := by simpa using d5
  refine ⟨fun y m h2 => h2 = A5 ∧ ∃ o : Nat, y = o ∧ o ≤ 10 ∧ 10 - o = m ∧ (∃ q, x = 2 ^ o * q) ∧ x + 2 ^ o ≤ r.2, ⟨_, rfl, 0, rfl, by omega, rfl, ⟨x, by simp⟩, by simp; omega⟩, ?_⟩
  intro y m A6 ⟨k0, o, k1, k2, k3, ⟨q, k4⟩, k5⟩
  subst k0 k1 k3
  have hp := pow_small (k := o) (by omega)
  have q0 : 0 ≤ q := by
    rcases Int.lt_or_le q 0 with g | g
    · have := Int.mul_neg_of_pos_of_neg hp.2 g; omega
    · exact g
  have fin : buddy_Buddy_add_A (some ⟨b, 0, none⟩) x (o : Int) (fun h40 => bsel (decide ((o : Int) < 0)) False (∃ m32, m32 < (r.2 - x).toNat ∧ ∃ st, r.1 ≤ IntKind.wrap .i64 (x + IntKind.wrap .i64 ((1 : Int) * 2 ^ (min (Int.toNat (o : Int)) 64))) ∧ IntKind.wrap .i64 (x + IntKind.wrap .i64 ((1 : Int) * 2 ^ (min (Int.toNat (o : Int)) 64))) ≤ r.2 ∧ (r.2 - IntKind.wrap .i64 (x + IntKind.wrap .i64 ((1 : Int) * 2 ^ (min (Int.toNat (o : Int)) 64)))).toNat = m32 ∧ BOK st (fun z => inR (rs.take i) z ∨ (r.1 ≤ z ∧ z < IntKind.wrap .i64 (x + IntKind.wrap .i64 ((1 : Int) * 2 ^ (min (Int.toNat (o : Int)) 64))))) (sizeR (rs.take i) + (IntKind.wrap .i64 (x + IntKind.wrap .i64 ((1 : Int) * 2 ^ (min (Int.toNat (o : Int)) 64))) - r.1)) ∧ Own (budL b mb g st [] (sizeR (rs.take i)) ++ l) h40)) A6 := by
    rw [shl1 (by omega) 1 (by omega) (by omega), Int.one_mul, w64 (n := x + 2 ^ o) (by omega) (by omega)]
    refine add_raw hA5 k2 hB5 ⟨by omega, by omega⟩ ⟨q, k4⟩ (fun z z1 z2 => ?_) fun st' A7 hB7 hA7 => bsel_f (by simp) ⟨_, ?_, st', by omega, by omega, rfl, ?_, hA7⟩
    · rintro (⟨p, hp1, hp2⟩ | hz)
      · have := hbef p hp1; omega
      · omega
    · omega
    · rw [show sizeR (rs.take i) + (x + 2 ^ o - r.1) = sizeR (rs.take i) + (x - r.1) + 2 ^ o by omega]
      refine hB7.congr fun z => ?_
      constructor
      · rintro ((z1 | z1) | z1)
        · exact .inl z1
        · exact .inr (by omega)
        · exact .inr (by omega)
      · rintro (z1 | z1)
        · exact .inl (.inl z1)
        · by_cases w : z < x
          · exact .inl (.inr ⟨z1.1, w⟩)
          · exact .inr (by omega)
  refine bsel_in (fun d6 => ?_) fun d6 => fin
  have d6 : o < 10 := by simp at d6; omega
  refine bsel_f (by simp) ?_
  refine bsel_in (fun d7 => ?_) fun d7 => fin
  rw [shl1 (by omega) 1 (by omega) (by omega), Int.one_mul] at d7
  have d7 : q % 2 = 0 := by
    rw [k4, and_at (by omega) q0 (by omega)] at d7
    simpa using d7
  refine bsel_f (by simp) ?_
  have hs : (2 : Int) ^ (o + 1) = 2 ^ o * 2 := Int.pow_succ _ _
  refine bsel_in (fun d8 => ?_) fun d8 => fin
  rw [shl1 (by omega) 2 (by omega) (by omega), w64 (by omega) (by omega)] at d8
  have d8 : x + 2 * 2 ^ o ≤ r.2 := by simpa using d8
  exact ⟨10 - (o + 1), by omega, rfl, o + 1, by rw [w64] <;> omega, by omega, rfl, ⟨q / 2, by rw [hs, Int.mul_assoc, show 2 * (q / 2) = q by omega, k4]⟩, by rw [hs]; omega⟩
end Go.Dn
/- Containers: what they may have and have. -/
namespace Go.Dn

structure Nd where
  par : Int
  quo : Int
  use : Int
  lent : Int
  live : Bool
def Nd.cells (d : Nd) : List Value := [.int .i64 d.par, .int .i64 d.quo, .int .i64 d.use, .int .i64 d.lent, .bool d.live]
def ndCells (ns : List Nd) : List Value := ns.flatMap Nd.cells
structure Nd.OK (d : Nd) : Prop where
  use : 0 ≤ d.use
  lent : 0 ≤ d.lent
  room : d.use + d.lent ≤ d.quo
  quo : d.quo ≤ 1048576
def treeL (t blk cap : Nat) (ns : List Nd) (rest : List Value) : List SP := [At t [.slice (some ⟨blk, 0, none⟩) ns.length cap], At blk (ndCells ns ++ rest)]
/-- Containers. -/
def TreeS (t : Nat) (ns : List Nd) : SP := fun B => ∃ blk cap rest, (ns.length ≤ 64 ∧ ∀ d ∈ ns, d.OK) ∧ Own (treeL t blk cap ns rest) B

variable {A : AH} {l R : List SP} {t blk cap i : Nat} {ns : List Nd} {rest : List Value} {nd : Nd}
theorem ndCells_len (ns : List Nd) : (ndCells ns).length = ns.length * 5 := by
  induction ns with
  | nil => rfl
  | cons d ns ih => simp only [ndCells, List.flatMap_cons, List.length_append] at ih ⊢; rw [ih]; simp [Nd.cells]; omega
theorem ndCells_at : ∀ {ns : List Nd} {i : Nat} {nd : Nd} (f : Nat), ns[i]? = some nd → f < 5 → (ndCells ns)[i * 5 + f]? = nd.cells[f]?
  | [], _, _, _, e, _ => by simp at e
  | d :: ns, 0, nd, f, e, hf => by
    simp at e; subst e
    show (d.cells ++ ndCells ns)[0 * 5 + f]? = _
    rw [List.getElem?_append_left (by simp [Nd.cells]; omega)]
    simp
  | d :: ns, i + 1, nd, f, e, hf => by
    have := ndCells_at (ns := ns) (i := i) (nd := nd) f (by simpa using e) hf
    show (d.cells ++ ndCells ns)[(i + 1) * 5 + f]? = _
    rw [List.getElem?_append_right (by simp [Nd.cells]; omega)]
    rw [show (i + 1) * 5 + f - d.cells.length = i * 5 + f by simp [Nd.cells]; omega]
    exact this
theorem ndCells_use : ∀ {ns : List Nd} {i : Nat} {nd : Nd} (x : Int), ns[i]? = some nd → (ndCells ns).set (i * 5 + 2) (.int .i64 x) = ndCells (ns.set i { nd with use := x })
  | [], _, _, _, e => by simp at e
  | d :: ns, 0, nd, x, e => by simp at e; subst e; rfl
  | d :: ns, i + 1, nd, x, e => by
    have := ndCells_use (ns := ns) (i := i) (nd := nd) x (by simpa using e)
    show (d.cells ++ ndCells ns).set ((i + 1) * 5 + 2) _ = d.cells ++ ndCells (ns.set i _)
    rw [List.set_append_right _ _ (by simp [Nd.cells]; omega)]
    rw [show (i + 1) * 5 + 2 - d.cells.length = i * 5 + 2 by simp [Nd.cells]; omega, this]
theorem TreeS.openH (h : Own (TreeS t ns :: R) A) : ∃ blk cap rest, (ns.length ≤ 64 ∧ ∀ d ∈ ns, d.OK) ∧ Own (treeL t blk cap ns rest ++ R) A := by
  obtain ⟨blk, h⟩ := Own.ex h
  obtain ⟨cap, h⟩ := Own.ex h
  obtain ⟨rest, h⟩ := Own.ex h
  obtain ⟨h1, h⟩ := Own.pure h
  exact ⟨blk, cap, rest, h1, Own.flat h⟩
theorem TreeS.closeH (h1 : ns.length ≤ 64) (h2 : ∀ d ∈ ns, d.OK) (h : Own (treeL t blk cap ns rest ++ R) A) : Own (TreeS t ns :: R) A := h.app.imp fun _ hB => ⟨blk, cap, rest, ⟨h1, h2⟩, hB⟩
theorem cell_ix {f : Nat} {v : Value} (hi : ns[i]? = some nd) (hf : f < 5) (hv : nd.cells[f]? = some v) : (ndCells ns ++ rest)[i * 5 + f]? = some v := by
  have hl := (List.getElem?_eq_some_iff.1 hi).1
  rw [List.getElem?_append_left (by rw [ndCells_len]; omega), ndCells_at f hi hf]
  exact hv
theorem at_raw {Q : Option Addr → Bool → AH → Prop} (h : Own (treeL t blk cap ns rest ++ R) A) (hi : ns[i]? = some nd) (hlv : nd.live = true) (hk : Q (some ⟨blk, i * 5, none⟩) true A) : quota_Tree_at_A (some ⟨t, 0, none⟩) i Q A := by
  have hl := (List.getElem?_eq_some_iff.1 hi).1
  unfold quota_Tree_at_A
  refine bsel_f (by simp) (ld_S (i := 0) h rfl rfl (bsel_f (by simp; omega) (ld_S (i := 0) h rfl rfl (inB_in (by omega) (by simp; omega) ?_))))
  rw [add_at, add_at]
  refine ld_B (i := 1) (n := nd.live) h rfl ?_ ?_
  · rw [show 0 + Int.toNat (i : Int) * 5 + 4 = i * 5 + 4 by omega]
    exact cell_ix hi (by omega) rfl
  refine bsel_f (by simp [hlv]) (ld_S (i := 0) h rfl rfl (inB_in (by omega) (by simp; omega) ?_))
  rw [add_at, show 0 + Int.toNat (i : Int) * 5 = i * 5 by omega]
  exact hk
theorem ld_nd {f : Nat} {x : Int} {K : Int → Prop} (h : Own (treeL t blk cap ns rest ++ R) A) (hi : ns[i]? = some nd) (hf : f < 5) (hx : nd.cells[f]? = some (.int .i64 x)) (hK : K x) : aI .i64 (Addr.add ⟨blk, i * 5, none⟩ f) A K := by
  rw [add_at]
  exact ld_I (i := 1) h rfl (cell_ix hi hf hx) hK
theorem st_use {x : Int} {K : AP} (h : Own (treeL t blk cap ns rest ++ R) A) (hi : ns[i]? = some nd) (hK : ∀ A', Own (treeL t blk cap (ns.set i { nd with use := x }) rest ++ R) A' → K A') : aC (Addr.add ⟨blk, i * 5, none⟩ 2) (.int .i64 x) A K := by
  rw [add_at]
  have hl := (List.getElem?_eq_some_iff.1 hi).1
  refine st_C (i := 1) h rfl ?_ rfl fun A' h' => hK A' ?_
  · rw [cell_ix hi (by omega) (f := 2) (v := .int .i64 nd.use) rfl]; rfl
  · have h' : Own (At t [.slice (some ⟨blk, 0, none⟩) ns.length cap] :: At blk ((ndCells ns ++ rest).set (i * 5 + 2) (.int .i64 x)) :: R) A' := h'
    rw [List.set_append_left _ _ (by rw [ndCells_len]; omega), ndCells_use x hi] at h'
    show Own (At t [.slice (some ⟨blk, 0, none⟩) (ns.set i { nd with use := x }).length cap] :: At blk (ndCells (ns.set i { nd with use := x }) ++ rest) :: R) A'
    rw [List.length_set]
    exact h'
theorem Room_raw {Q : Int → AH → Prop} (h : Own (treeL t blk cap ns rest ++ R) A) (hi : ns[i]? = some nd) (hlv : nd.live = true) (hok : nd.OK) (hk : Q (nd.quo - nd.use - nd.lent) A) : quota_Tree_Room_A (some ⟨t, 0, none⟩) i Q A := by
  obtain ⟨o1, o2, o3, o4⟩ := hok
  unfold quota_Tree_Room_A quota_Tree_Room_G
  refine at_raw h hi hlv (bsel_f rfl (ld_nd h hi (by omega) rfl (ld_nd h hi (by omega) rfl (ld_nd h hi (by omega) rfl ?_))))
  rw [w64 (n := nd.quo - nd.use) (by omega) (by omega), w64 (by omega) (by omega)]
  exact hk
theorem set_ok (h2 : ∀ d ∈ ns, d.OK) {x : Nd} (hx : x.OK) : ∀ d ∈ ns.set i x, d.OK := fun d hd => by
  rcases List.mem_or_eq_of_mem_set hd with h | h
  · exact h2 d h
  · rw [h]; exact hx
theorem Charge_head {k : Int} {Q : Int → AH → Prop} (h : Own (TreeS t ns :: R) A) (hi : ns[i]? = some nd) (hlv : nd.live = true) (hk0 : 0 ≤ k) (hn : k > nd.quo - nd.use - nd.lent → Q 8 A)
    (hk : k ≤ nd.quo - nd.use - nd.lent → ∀ A', Own (TreeS t (ns.set i { nd with use := nd.use + k }) :: R) A' → Q 0 A') : quota_Tree_Charge_A (some ⟨t, 0, none⟩) i k Q A := by
  obtain ⟨blk, cap, rest, ⟨h1, h2⟩, hh⟩ := TreeS.openH h
  have hok := h2 nd (List.mem_of_getElem? hi)
  obtain ⟨o1, o2, o3, o4⟩ := hok
  unfold quota_Tree_Charge_A quota_Tree_Charge_G
  refine at_raw hh hi hlv (bsel_f rfl (bsel_f (by simp; omega) (Room_raw hh hi hlv ⟨o1, o2, o3, o4⟩ ?_)))
  refine bsel_in (fun c => hn (by simpa using c)) fun c => ?_
  have c : k ≤ nd.quo - nd.use - nd.lent := by simpa using c
  refine ld_nd hh hi (by omega) rfl (st_use hh hi fun A' hA => hk c A' ?_)
  rw [w64 (by omega) (by omega)] at hA
  exact TreeS.closeH (by simpa using h1) (set_ok h2 ⟨by simp; omega, o2, by simp; omega, o4⟩) hA
theorem Credit_head {k : Int} {Q : Int → AH → Prop} (h : Own (TreeS t ns :: R) A) (hi : ns[i]? = some nd) (hlv : nd.live = true) (hk0 : 0 ≤ k) (hku : k ≤ nd.use)
    (hk : ∀ A', Own (TreeS t (ns.set i { nd with use := nd.use - k }) :: R) A' → Q 0 A') : quota_Tree_Credit_A (some ⟨t, 0, none⟩) i k Q A := by
  obtain ⟨blk, cap, rest, ⟨h1, h2⟩, hh⟩ := TreeS.openH h
  have hok := h2 nd (List.mem_of_getElem? hi)
  obtain ⟨o1, o2, o3, o4⟩ := hok
  unfold quota_Tree_Credit_A quota_Tree_Credit_G
  refine at_raw hh hi hlv (bsel_f rfl (bsel_f (by simp; omega) (ld_nd hh hi (by omega) rfl (bsel_f (by simp; omega) (ld_nd hh hi (by omega) rfl (st_use hh hi fun A' hA => hk A' ?_))))))
  rw [w64 (by omega) (by omega)] at hA
  exact TreeS.closeH (by simpa using h1) (set_ok h2 ⟨by simp; omega, o2, by simp; omega, o4⟩) hA
theorem Get_head {Q : Int → Int → Int → Int → Bool → Bool → AH → Prop} (h : Own (TreeS t ns :: R) A) (hi : ns[i]? = some nd) (hlv : nd.live = true) (hk : Q nd.par nd.quo nd.use nd.lent nd.live true A) : quota_Tree_Get_A (some ⟨t, 0, none⟩) i Q A := by
  obtain ⟨blk, cap, rest, ⟨h1, h2⟩, hh⟩ := TreeS.openH h
  unfold quota_Tree_Get_A quota_Tree_Get_G
  refine at_raw hh hi hlv (bsel_t rfl ?_)
  refine ld_I (i := 1) hh rfl (cell_ix (f := 0) hi (by omega) rfl) (ld_nd hh hi (by omega) rfl (ld_nd hh hi (by omega) rfl (ld_nd hh hi (by omega) rfl ?_)))
  rw [add_at]
  exact ld_B (i := 1) hh rfl (cell_ix (f := 4) hi (by omega) rfl) hk
theorem qNew_spec {q : Int} {Q : Option Addr → Int → AH → Prop} (h : Own l A) (hn : q < 0 ∨ q > 1048576 → Q none 1 A) (hk : 0 ≤ q ∧ q ≤ 1048576 → ∀ t A', Own (TreeS t [⟨-1, q, 0, 0, true⟩] :: l) A' → Q (some ⟨t, 0, none⟩) 0 A') : quota_New_A q Q A := by
  unfold quota_New_A
  refine bsel_in (fun c => hn (.inl (by simpa using c))) fun c => bsel_in (fun d => hn (.inr (by simpa using d))) fun d => ?_
  have c : 0 ≤ q := by simpa using c
  have d : q ≤ 1048576 := by simpa using d
  show newA A (.cells (ndCells [⟨-1, q, 0, 0, true⟩]).toArray _) _
  refine new_C h fun b1 A1 h1 => ?_
  show newA A1 (.cells [Value.slice (some ⟨b1, 0, none⟩) 1 1].toArray _) _
  refine new_C h1 fun b2 A2 h2 => hk ⟨c, d⟩ b2 A2 (TreeS.closeH (rest := []) (by simp) (fun x hx => ?_) h2)
  simp at hx; subst hx
  exact ⟨Int.le_refl _, Int.le_refl _, by simp; omega, d⟩
theorem Used_head {r b : Option Addr} {Q : Int → AH → Prop} (h : Own (TreeS t ns :: R) A) (hi : ns[i]? = some nd) (hlv : nd.live = true) (hk : Q nd.use A) : demesnelaw09_Used_A r b (some ⟨t, 0, none⟩) i Q A := by
  unfold demesnelaw09_Used_A demesnelaw09_Used_G
  exact Get_head h hi hlv hk
end Go.Dn
/- Frames that are taken and given back, and who is charged. -/
namespace Go.Dn

variable {A : AH} {l R : List SP} {r b t i : Nat} {fr n : Int} {hs : List (Int × Int)} {W : Int → Int → Int} {F G : Int → Prop} {ns : List Nd} {nd : Nd}
theorem Own.rot3 {P0 P1 P2 : SP} (h : Own (P0 :: P1 :: P2 :: R) A) : Own (P2 :: P0 :: P1 :: R) A :=
  h.perm ((List.Perm.cons _ (List.Perm.swap _ _ _)).trans (List.Perm.swap _ _ _))
theorem Own.unrot3 {P0 P1 P2 : SP} (h : Own (P2 :: P0 :: P1 :: R) A) : Own (P0 :: P1 :: P2 :: R) A :=
  h.perm ((List.Perm.swap _ _ _).trans (List.Perm.cons _ (List.Perm.swap _ _ _)))
def useN (ns : List Nd) (i : Nat) (nd : Nd) (x : Int) : List Nd := ns.set i { nd with use := x }
theorem useN_back (hi : ns[i]? = some nd) (x : Int) : useN (useN ns i nd x) i { nd with use := x } nd.use = ns := by
  unfold useN
  rw [List.set_set]
  apply List.ext_getElem?
  intro j
  rw [List.getElem?_set]
  split
  · rename_i g
    subst g
    rw [if_pos (List.getElem?_eq_some_iff.1 hi).1, hi]
  · rfl
theorem useN_at (hi : ns[i]? = some nd) (x : Int) : (useN ns i nd x)[i]? = some { nd with use := x } := by
  unfold useN
  rw [List.getElem?_set, if_pos rfl, if_pos (List.getElem?_eq_some_iff.1 hi).1]
theorem pTake_spec {Q : Int → Int → AH → Prop} (h : Own (RamW r fr hs W :: Bud b F G n :: TreeS t ns :: R) A) (hi : ns[i]? = some nd) (hlv : nd.live = true) (hF : ∀ x, F x → hasF fr hs x = true)
    (hq : nd.quo - nd.use - nd.lent < 1 → Q 0 8 A) (hm : 1 ≤ nd.quo - nd.use - nd.lent → n = 0 → ∀ A', Own (RamW r fr hs W :: Bud b F G n :: TreeS t ns :: R) A' → Q 0 7 A')
    (hk : 1 ≤ nd.quo - nd.use - nd.lent → n ≠ 0 → ∀ f A', F f → Own (RamW r fr hs (zeroW W f) :: Bud b (fun x => F x ∧ x ≠ f) (fun x => G x ∨ x = f) (n - 1) :: TreeS t (useN ns i nd (nd.use + 1)) :: R) A' → Q f 0 A') :
    table_Purse_Take_A (some ⟨r, 0, none⟩) (some ⟨b, 0, none⟩) (some ⟨t, 0, none⟩) i Q A := by
  unfold table_Purse_Take_A table_Purse_Take_G
  refine Charge_head h.rot3 hi hlv (by omega) (fun c => bsel_t rfl (hq (by omega))) fun c A1 hA1 => bsel_f rfl ?_
  refine Take_head hA1.unrot3.swap (fun n0 => ?_) fun n0 f A2 hf hA2 => ?_
  · refine ⟨fun x h12 => h12 = A1 ∧ x = 7, fun x h12 ⟨e1, e2⟩ => ?_, bsel_f rfl ⟨rfl, rfl⟩⟩
    subst e1 e2
    refine Credit_head (nd := { nd with use := nd.use + 1 }) hA1 (useN_at hi _) hlv (by omega) (by
      obtain ⟨_, _, _, ⟨_, h2⟩, _⟩ := TreeS.openH h.rot3
      have := (h2 nd (List.mem_of_getElem? hi)).use
      simp; omega) fun A3 hA3 => hm (by omega) n0 A3 ?_
    have e : (useN ns i nd (nd.use + 1)).set i { par := nd.par, quo := nd.quo, use := nd.use + 1 - 1, lent := nd.lent, live := nd.live } = ns := by
      have := useN_back hi (nd.use + 1)
      unfold useN at this ⊢
      rw [show nd.use + 1 - 1 = nd.use by omega]
      exact this
    have hA3 : Own (TreeS t ((useN ns i nd (nd.use + 1)).set i { par := nd.par, quo := nd.quo, use := nd.use + 1 - 1, lent := nd.lent, live := nd.live }) :: RamW r fr hs W :: Bud b F G n :: R) A3 := hA3
    rw [e] at hA3
    exact hA3.unrot3
  · refine ⟨fun _ _ => False, fun _ _ q => q.elim, bsel_t rfl ?_⟩
    exact Zero_head hA2.swap (hF f hf) fun A3 hA3 => bsel_t rfl (hk (by omega) n0 f A3 hf hA3)
theorem pGive_spec {f : Int} {Q : AH → Prop} (h : Own (RamW r fr hs W :: Bud b F G n :: TreeS t ns :: R) A) (hi : ns[i]? = some nd) (hlv : nd.live = true) (hG : G f) (hu : 1 ≤ nd.use)
    (hk : ∀ A', Own (RamW r fr hs W :: Bud b (fun x => F x ∨ x = f) (fun x => G x ∧ x ≠ f) (n + 1) :: TreeS t (useN ns i nd (nd.use - 1)) :: R) A' → Q A') :
    table_Purse_Give_A (some ⟨r, 0, none⟩) (some ⟨b, 0, none⟩) (some ⟨t, 0, none⟩) i f Q A := by
  unfold table_Purse_Give_A table_Purse_Give_G
  refine Give_head h.swap hG fun A1 hA1 => ?_
  exact Credit_head hA1.swap.rot3 hi hlv (by omega) hu fun A2 hA2 => hk A2 hA2.unrot3
end Go.Dn
/- The kernel's tables. -/
namespace Go.Dn

variable {A : AH} {l R : List SP} {r b t i : Nat} {fr n : Int} {hs : List (Int × Int)} {W : Int → Int → Int} {F G : Int → Prop} {ns : List Nd} {nd : Nd}
theorem Own.rot4 {P0 P1 P2 P3 : SP} (h : Own (P0 :: P1 :: P2 :: P3 :: R) A) : Own (P3 :: P0 :: P1 :: P2 :: R) A :=
  h.perm ((List.Perm.cons _ ((List.Perm.cons _ (List.Perm.swap _ _ _)).trans (List.Perm.swap _ _ _))).trans (List.Perm.swap _ _ _))
theorem Own.unrot4 {P0 P1 P2 P3 : SP} (h : Own (P3 :: P0 :: P1 :: P2 :: R) A) : Own (P0 :: P1 :: P2 :: P3 :: R) A :=
  h.perm ((List.Perm.swap _ _ _).trans (List.Perm.cons _ ((List.Perm.swap _ _ _).trans (List.Perm.cons _ (List.Perm.swap _ _ _)))))
theorem at_slo {b k sz : Nat} {cs : List Value} (hk : k * sz = cs.length) {B : AH} (h : At b cs B) : SlO ⟨some ⟨b, 0, none⟩, k, k⟩ sz cs B :=
  ⟨⟨hk, Nat.le_refl _⟩, .inr ⟨b, [], rfl, by simp; omega, by simpa using h⟩⟩
def intsV (l : List Int) : List Value := l.map (.int .i64)
theorem intsV_app (a c : List Int) : intsV (a ++ c) = intsV a ++ intsV c := List.map_append
theorem useN_use (ns : List Nd) (i : Nat) (nd : Nd) (x y : Int) : useN (useN ns i nd x) i { nd with use := x } y = useN ns i nd y := by
  unfold useN; rw [List.set_set]
theorem useN_same (hi : ns[i]? = some nd) : useN ns i nd nd.use = ns := by
  unfold useN
  apply List.ext_getElem?
  intro j
  rw [List.getElem?_set]
  split
  · rename_i g
    subst g
    rw [if_pos (List.getElem?_eq_some_iff.1 hi).1, hi]
  · rfl
theorem Bud.congr {F' G' : Int → Prop} {n' : Int} (hF : ∀ x, F x ↔ F' x) (hG : ∀ x, G x ↔ G' x) (hn : n = n') (h : Own (Bud b F G n :: R) A) : Own (Bud b F' G' n' :: R) A := by
  have e1 : F = F' := funext fun x => propext (hF x)
  have e2 : G = G' := funext fun x => propext (hG x)
  subst e1 e2 hn
  exact h
/-- With these frames taken. -/
def taken (r : Nat) (fr : Int) (hs : List (Int × Int)) (W : Int → Int → Int) (b : Nat) (F G : Int → Prop) (n : Int) (t : Nat) (ns : List Nd) (i : Nat) (nd : Nd) (tk : List Int) : List SP :=
  [RamW r fr hs W, Bud b (fun x => F x ∧ x ∉ tk) (fun x => G x ∨ x ∈ tk) (n - tk.length), TreeS t (useN ns i nd (nd.use + tk.length))]
theorem taken_nil (hi : ns[i]? = some nd) (h : Own (RamW r fr hs W :: Bud b F G n :: TreeS t ns :: R) A) : Own (taken r fr hs W b F G n t ns i nd [] ++ R) A := by
  have e : useN ns i nd (nd.use + (([] : List Int).length : Int)) = ns := by
    simp only [List.length_nil]
    rw [show nd.use + ((0 : Nat) : Int) = nd.use by omega]
    exact useN_same hi
  unfold taken
  rw [e]
  exact h.cons fun C hC => Bud.congr (fun x => by simp) (fun x => by simp) (by simp) hC
theorem taken_back (hi : ns[i]? = some nd) (h : Own (taken r fr hs W b F G n t ns i nd [] ++ R) A) : Own (RamW r fr hs W :: Bud b F G n :: TreeS t ns :: R) A := by
  have e : useN ns i nd (nd.use + (([] : List Int).length : Int)) = ns := by
    simp only [List.length_nil]
    rw [show nd.use + ((0 : Nat) : Int) = nd.use by omega]
    exact useN_same hi
  unfold taken at h
  rw [e] at h
  exact h.cons fun C hC => Bud.congr (fun x => by simp) (fun x => by simp) (by simp) hC
/-- One more. -/
theorem tTake_spec {tk : List Int} {Q : Int → Int → AH → Prop} (h : Own (taken r fr hs W b F G n t ns i nd tk ++ R) A) (hi : ns[i]? = some nd) (hlv : nd.live = true) (hF : ∀ x, F x → hasF fr hs x = true)
    (hq : nd.quo - nd.use - nd.lent ≤ tk.length → Q 0 8 A) (hm : tk.length < nd.quo - nd.use - nd.lent → n = tk.length → ∀ A', Own (taken r fr hs W b F G n t ns i nd tk ++ R) A' → Q 0 7 A')
    (hk : tk.length < nd.quo - nd.use - nd.lent → n ≠ tk.length → ∀ f A', F f → f ∉ tk → Own (taken r fr hs (zeroW W f) b F G n t ns i nd (tk ++ [f]) ++ R) A' → Q f 0 A') :
    table_Purse_Take_A (some ⟨r, 0, none⟩) (some ⟨b, 0, none⟩) (some ⟨t, 0, none⟩) i Q A := by
  refine pTake_spec (nd := { nd with use := nd.use + tk.length }) h (useN_at hi _) hlv (fun x hx => hF x hx.1) (fun c => hq (by simp at c; omega)) (fun c d A' hA => hm (by simp at c; omega) (by omega) A' hA) fun c d f A' hf hA => hk (by simp at c; omega) (by omega) f A' hf.1 hf.2 ?_
  rw [useN_use] at hA
  unfold taken
  rw [show nd.use + ((tk ++ [f]).length : Int) = nd.use + tk.length + 1 by simp; omega]
  refine hA.cons fun C hC => Bud.congr (fun x => ?_) (fun x => ?_) (by simp; omega) hC
  · simp only [List.mem_append, List.mem_singleton, not_or]; exact ⟨fun h => ⟨h.1.1, h.1.2, h.2⟩, fun h => ⟨⟨h.1, h.2.1⟩, h.2.2⟩⟩
  · simp only [List.mem_append, List.mem_singleton, or_assoc]
/-- One is given back. -/
theorem tGive_spec {f : Int} {tk : List Int} {Q : AH → Prop} (h : Own (taken r fr hs W b F G n t ns i nd (f :: tk) ++ R) A) (hi : ns[i]? = some nd) (hlv : nd.live = true) (hu : 0 ≤ nd.use) (hf : F f) (hnd : (f :: tk).Nodup) (hG : ¬G f)
    (hk : ∀ A', Own (taken r fr hs W b F G n t ns i nd tk ++ R) A' → Q A') : table_Purse_Give_A (some ⟨r, 0, none⟩) (some ⟨b, 0, none⟩) (some ⟨t, 0, none⟩) i f Q A := by
  refine pGive_spec (nd := { nd with use := nd.use + (f :: tk).length }) h (useN_at hi _) hlv (.inr List.mem_cons_self) (by simp; omega) fun A' hA => hk A' ?_
  rw [useN_use] at hA
  have hno := (List.nodup_cons.1 hnd).1
  unfold taken
  rw [show nd.use + (tk.length : Int) = nd.use + ((f :: tk).length : Int) - 1 by simp; omega]
  refine hA.cons fun C hC => Bud.congr (fun x => ?_) (fun x => ?_) (by simp; omega) hC
  · simp only [List.mem_cons, not_or]
    constructor
    · rintro (⟨h1, h2, h3⟩ | h1)
      · exact ⟨h1, h3⟩
      · rw [h1]; exact ⟨hf, hno⟩
    · rintro ⟨h1, h2⟩
      by_cases e : x = f
      · exact .inr e
      · exact .inl ⟨h1, e, h2⟩
  · simp only [List.mem_cons]
    constructor
    · rintro ⟨h1 | h1 | h1, h2⟩
      · exact .inl h1
      · exact absurd h1 h2
      · exact .inr h1
    · rintro (h1 | h1)
      · exact ⟨.inl h1, fun e => hG (e ▸ h1)⟩
      · exact ⟨.inr (.inr h1), fun e => hno (e ▸ h1)⟩

def kEnt (f : Int) : Int := packZ true true false false false false false false f
def kBig (f : Int) : Int := packZ true true false false false true true true f
/-- What the kernel's tables say. -/
structure KOK (fr : Int) (W0 : Int → Int → Int) (top : Int) (ms : List Int) (W : Int → Int → Int) : Prop where
  nodup : (top :: ms).Nodup
  other : ∀ f, f ∉ top :: ms → W f = W0 f
  top : ∀ q : Nat, q < 512 → W top q = match ms[q]? with | some m => kEnt m | none => 0
  mid : ∀ (c : Nat) m, ms[c]? = some m → ∀ q : Nat, q < 512 → W m q = if (c : Int) * 262144 + q * 512 < fr then kBig (c * 262144 + q * 512) else 0
def needK (fr : Int) : Nat := ((fr + 262143) / 262144).toNat
theorem setW_ne {W : Int → Int → Int} {t i x f : Int} (h : f ≠ t) : setW W t i x f = W f := by
  funext q; unfold setW; rw [if_neg (fun g => h g.1)]
theorem zeroW_ne {W : Int → Int → Int} {t f : Int} (h : f ≠ t) : zeroW W t f = W f := by
  funext q; unfold zeroW; rw [if_neg h]
theorem reads_slo {s : Sl} {sz : Nat} {cs : List Value} : Reads (SlO s sz cs) s sz cs := fun B A h u => reads_slat B A h.look u
theorem KOK.step {W0 W' W3 : Int → Int → Int} {top f : Int} {ms : List Int} (hK : KOK fr W0 top ms W') (hf : f ∉ top :: ms) (h1 : ∀ f', f' ≠ f → W3 f' = setW (zeroW W' f) top ms.length (kEnt f) f')
    (h2 : ∀ q : Nat, q < 512 → W3 f q = if (ms.length : Int) * 262144 + q * 512 < fr then kBig ((ms.length : Int) * 262144 + q * 512) else 0) : KOK fr W0 top (ms ++ [f]) W3 := by
  have hft : top ≠ f := fun e => hf (by simp [e])
  have hfm : ∀ m ∈ ms, m ≠ f ∧ m ≠ top := fun m hm => ⟨fun e => hf (by rw [← e]; exact List.mem_cons_of_mem _ hm), fun e => (List.nodup_cons.1 hK.nodup).1 (e ▸ hm)⟩
  refine ⟨?_, fun g hg => ?_, fun q hq => ?_, fun c m hm q hq => ?_⟩
  · show ((top :: ms) ++ [f]).Nodup
    exact List.nodup_append.2 ⟨hK.nodup, by simp, fun x hx y hy => by simp at hy; subst hy; exact fun e => hf (e ▸ hx)⟩
  · simp only [List.mem_cons, List.mem_append, List.not_mem_nil, or_false, not_or] at hg
    rw [h1 g hg.2.2, setW_ne hg.1, zeroW_ne hg.2.2]
    exact hK.other g (by simp [hg.1, hg.2.1])
  · rw [h1 top hft]
    unfold setW
    by_cases e : q = ms.length
    · rw [if_pos ⟨rfl, by omega⟩, List.getElem?_append_right (by omega), e]
      simp
    · rw [if_neg (by omega), zeroW_ne hft, hK.top q hq]
      by_cases g : q < ms.length
      · rw [List.getElem?_append_left g]
      · rw [List.getElem?_eq_none (by omega), List.getElem?_eq_none (by simp; omega)]
  · by_cases g : c < ms.length
    · rw [List.getElem?_append_left g] at hm
      obtain ⟨g1, g2⟩ := hfm m (List.mem_of_getElem? hm)
      rw [h1 m g1, setW_ne g2, zeroW_ne g1]
      exact hK.mid c m hm q hq
    · have : c = ms.length := by
        have := (List.getElem?_eq_some_iff.1 hm).1
        simp at this; omega
      subst this
      rw [List.getElem?_append_right (by omega)] at hm
      simp at hm
      subst hm
      exact h2 q hq
theorem fdiv18 (j : Nat) : Int.fdiv ((j : Int) * 262144) (2 ^ (18 : Nat)) = j := by rw [shr_eq]; omega
theorem big_at {j q : Nat} (hj : j < 4) (hq : q < 512) : IntKind.wrap .i64 ((j : Int) * 262144 + IntKind.wrap .i64 ((q : Int) * 2 ^ (9 : Nat))) = (j : Int) * 262144 + q * 512 := by
  have e : ((q : Int) * 2 ^ (9 : Nat)) = q * 512 := rfl
  rw [e, w64 (n := (q : Int) * 512) (by omega) (by omega), w64 (by omega) (by omega)]
set_option maxRecDepth 100000 in
set_option maxHeartbeats 2000000 in
theorem Kernel_spec {Q : Int → Int → AH → Prop} (h : Own (RamW r fr hs W :: Bud b F G n :: TreeS t ns :: R) A) (hi : ns[i]? = some nd) (hlv : nd.live = true) (hF : ∀ x, F x → hasF fr hs x = true) (hf1 : 1 ≤ fr)
    (hbad : ∀ e W' A', (e = 8 ∧ nd.quo - nd.use - nd.lent < 1 + needK fr ∧ nd.quo - nd.use - nd.lent ≤ n ∨ e = 7 ∧ n < 1 + needK fr ∧ n < nd.quo - nd.use - nd.lent) → (∀ f, ¬F f → W' f = W f) →
      Own (RamW r fr hs W' :: Bud b F G n :: TreeS t ns :: R) A' → Q 0 e A')
    (hk : 1 + needK fr ≤ nd.quo - nd.use - nd.lent → 1 + needK fr ≤ n → ∀ top ms W' A', ms.length = needK fr → (∀ x ∈ top :: ms, F x) → KOK fr W top ms W' → Own (taken r fr hs W' b F G n t ns i nd (top :: ms) ++ R) A' → Q top 0 A') :
    table_Kernel_A (some ⟨r, 0, none⟩) (some ⟨b, 0, none⟩) (some ⟨t, 0, none⟩) i Q A := by
  have hRam : RamOK fr hs := (RamW.openH h).choose_spec.1.1
  have hfr := hRam.hi
  obtain ⟨mb0, g0, st0, gl0, hB0, hG0, _, _⟩ := Bud.openH h.swap
  have hn0 := hB0.nonneg
  have hFG : ∀ x, F x → ¬G x := fun x hx hg => (hG0.apart x hg).1 hx
  have hnd : nd.OK := by
    obtain ⟨_, _, _, ⟨_, h2⟩, _⟩ := TreeS.openH h.rot3
    exact h2 nd (List.mem_of_getElem? hi)
  have hneed : ((needK fr : Nat) : Int) = (fr + 262143) / 262144 := by unfold needK; omega
  unfold table_Kernel_A table_Kernel_G
  refine tTake_spec (taken_nil hi h) hi hlv hF (fun c => bsel_t rfl ?_) (fun c d A1 hA1 => bsel_t rfl ?_) fun c d top A1 hFt _ hA1 => bsel_f rfl ?_
  · have c : nd.quo - nd.use - nd.lent ≤ 0 := by simpa using c
    exact hbad 8 W A (.inl ⟨rfl, by omega, by omega⟩) (fun _ _ => rfl) h
  · have c : 0 < nd.quo - nd.use - nd.lent := by simpa using c
    have d : n = 0 := by simpa using d
    exact hbad 7 W A1 (.inr ⟨rfl, by omega, by omega⟩) (fun _ _ => rfl) (taken_back hi hA1)
  show newA A1 (.cells (intsV [top]).toArray _) _
  refine new_C hA1 fun b4 A2 hA2 => ?_
  refine ⟨fun s x m h' => ∃ (ms : List Int) (W' : Int → Int → Int), x = (ms.length : Int) * 262144 ∧ ms.length ≤ needK fr ∧ needK fr - ms.length = m ∧ KOK fr W top ms W' ∧ (∀ x ∈ top :: ms, F x) ∧ s.len = ms.length + 1 ∧ s.a ≠ none ∧ ((top :: ms).length : Int) ≤ nd.quo - nd.use - nd.lent ∧ ((top :: ms).length : Int) ≤ n ∧
    Own (taken r fr hs W' b F G n t ns i nd (top :: ms) ++ SlO s 1 (intsV (top :: ms)) :: R) h', ⟨_, [], zeroW W top, by simp, by simp, rfl, ⟨by simp, fun f hf => zeroW_ne (by simpa using hf), fun q _ => by simp [zeroW], fun c m hm => by simp at hm⟩, fun x hx => ?_, rfl, by simp, ?_, ?_, ?_⟩, ?_⟩
  · simp at hx; rw [hx]; exact hFt
  · simp at c ⊢; omega
  · simp at c d ⊢; omega
  · have hA2 : Own (At b4 (intsV [top]) :: (taken r fr hs (zeroW W top) b F G n t ns i nd [top] ++ R)) A2 := hA2
    exact (hA2.imp fun B hB => at_slo (k := 1) (sz := 1) rfl hB).unrot4
  intro s x m A3 ⟨ms, W', i1, i2, i3, hK, i4, i5, i5b, i6, i7, hA3⟩
  subst i1 i3
  refine Frames_head hA3 ?_
  refine bsel_in (fun cc => ?_) fun cc => ?_
  rotate_left
  · have cc : ¬ ((ms.length : Int) * 262144 < fr) := by simpa using cc
    have e : ms.length = needK fr := by omega
    refine hk (by simp at i6; omega) (by simp at i7; omega) top ms W' A3 e i4 hK ?_
    exact hA3.sub (List.Sublist.append_left (List.sublist_cons_self _ _) _)
  have cc : (ms.length : Int) * 262144 < fr := by simpa using cc
  have hj4 : ms.length < 4 := by omega
  have giveback : ∀ (e : Int) A4, (e = 8 ∧ nd.quo - nd.use - nd.lent < 1 + needK fr ∧ nd.quo - nd.use - nd.lent ≤ n ∨ e = 7 ∧ n < 1 + needK fr ∧ n < nd.quo - nd.use - nd.lent) → Own (taken r fr hs W' b F G n t ns i nd (top :: ms) ++ SlO s 1 (intsV (top :: ms)) :: R) A4 →
      ∃ I17 : Int → Nat → AH → Prop, (∃ m18, I17 (0 : Int) m18 A4) ∧ ∀ x21 : Int, ∀ m18 h20, I17 x21 m18 h20 →
        (bsel (decide (x21 < (Int.ofNat s.len))) (onSome s.a fun a22 => (inB x21 s.len (aI .i64 (Addr.add a22 (Int.toNat x21 * 1)) h20 fun n23 =>
          (table_Purse_Give_A (some ⟨r, 0, none⟩) (some ⟨b, 0, none⟩) (some ⟨t, 0, none⟩) i n23 (fun h24 => (∃ m19, m19 < m18 ∧ I17 (IntKind.wrap .i64 (x21 + (1 : Int))) m19 h24)) h20)))) (Q (0 : Int) e h20)) := by
    intro e A4 he hA4
    refine ⟨fun x m h' => ∃ c : Nat, x = c ∧ c ≤ ms.length + 1 ∧ ms.length + 1 - c = m ∧ Own (taken r fr hs W' b F G n t ns i nd ((top :: ms).drop c) ++ SlO s 1 (intsV (top :: ms)) :: R) h', ⟨_, 0, rfl, by omega, rfl, hA4⟩, ?_⟩
    intro x m A5 ⟨c, e1, e2, e3, hA5⟩
    subst e1 e3
    refine bsel_in (fun d => ?_) fun d => ?_
    · have d : c < (top :: ms).length := by simp [i5] at d ⊢; omega
      obtain ⟨f, hf⟩ : ∃ f, (top :: ms)[c]? = some f := ⟨(top :: ms)[c], by simp [d]⟩
      have hd : (top :: ms).drop c = f :: (top :: ms).drop (c + 1) := by
        rw [List.drop_eq_getElem_cons d]
        have := (List.getElem?_eq_some_iff.1 hf).2
        rw [this]
      rw [hd] at hA5
      obtain ⟨bb, o, q1, q2⟩ := rd_cell (i := 3) (P := SlO s 1 (intsV (top :: ms))) hA5 rfl reads_slo (j := c) (v := .int .i64 f) (by simp only [intsV, List.getElem?_map, hf]; rfl)
      rw [q1]
      refine inB_in (by omega) (by simp only [List.length_cons] at d; omega) ⟨f, by rw [add_at]; simpa using q2, ?_⟩
      have hfm : f ∈ top :: ms := List.mem_of_getElem? hf
      refine tGive_spec hA5 hi hlv hnd.use (i4 f hfm) (by rw [← hd]; exact hK.nodup.sublist (List.drop_sublist _ _)) (hFG f (i4 f hfm)) fun A6 hA6 => ?_
      have d2 : c < ms.length + 1 := by simpa using d
      exact ⟨ms.length + 1 - (c + 1), by omega, c + 1, by rw [w64] <;> omega, by omega, rfl, hA6⟩
    · have d : c = (top :: ms).length := by simp [i5] at d ⊢; omega
      rw [d, List.drop_length] at hA5
      refine hbad e W' A5 he (fun f hf => hK.other f fun hm => hf (i4 f hm)) ?_
      have := taken_back hi hA5
      exact this.sub (List.Sublist.cons_cons _ (List.Sublist.cons_cons _ (List.Sublist.cons_cons _ (List.sublist_cons_self _ _))))
  have hlen2 : (((top :: ms).length : Nat) : Int) = ms.length + 1 := by simp
  refine tTake_spec hA3 hi hlv hF (fun c2 => bsel_t rfl (giveback 8 A3 (.inl ⟨rfl, by omega, by omega⟩) hA3)) (fun c2 d2 A4 hA4 => bsel_t rfl (giveback 7 A4 (.inr ⟨rfl, by omega, by omega⟩) hA4)) fun c2 d2 f A4 hFf hfn hA4 => bsel_f rfl ?_
  show newA A4 (.cells (intsV [f]).toArray _) _
  refine new_C hA4 fun b25 A5 hA5 => ?_
  have hA5 : Own (SlAt ⟨some ⟨b25, 0, none⟩, 1, 1⟩ 1 (intsV [f]) :: (taken r fr hs (zeroW W' f) b F G n t ns i nd ((top :: ms) ++ [f]) ++ SlO s 1 (intsV (top :: ms)) :: R)) A5 := hA5.imp fun B hB => (at_slo (k := 1) (sz := 1) rfl hB).look
  have hA5 : Own (SlO s 1 (intsV (top :: ms)) :: SlAt ⟨some ⟨b25, 0, none⟩, 1, 1⟩ 1 (intsV [f]) :: (taken r fr hs (zeroW W' f) b F G n t ns i nd ((top :: ms) ++ [f]) ++ R)) A5 := hA5.pick 4 rfl
  refine ap_head (i := 0) hA5 rfl (fun q => by cases q) (fun q => absurd q i5b) rfl (fun v hv => ?_) ⟨by simp only [i5]; omega, by simp only [i5]; omega⟩ fun s' A6 j1 j2 hA6 => ?_
  · simp [intsV] at hv; subst hv; rfl
  rw [← intsV_app] at hA6
  have hA6 : Own (RamW r fr hs (zeroW W' f) :: Bud b (fun x => F x ∧ x ∉ (top :: ms) ++ [f]) (fun x => G x ∨ x ∈ (top :: ms) ++ [f]) (n - (((top :: ms) ++ [f]).length : Int)) :: TreeS t (useN ns i nd (nd.use + (((top :: ms) ++ [f]).length : Int))) :: SlO s' 1 (intsV ((top :: ms) ++ [f])) :: R) A6 :=
    Own.unrot4 (hA6.sub (List.Sublist.cons_cons _ (List.sublist_cons_self _ _)))
  rw [fdiv18]
  have hfr2 := has_range (hF f hFf) hfr
  have hft : f ≠ top := fun e => hfn (by rw [e]; exact List.mem_cons_self)
  refine put_head hA6 (hF top hFt) ⟨by omega, by omega⟩ ⟨hfr2.1, by omega⟩ fun A7 hA7 => ?_
  have fin : ∀ W3 A9, (∀ f', f' ≠ f → W3 f' = setW (zeroW W' f) top ms.length (kEnt f) f') → (∀ q : Nat, q < 512 → W3 f q = if (ms.length : Int) * 262144 + q * 512 < fr then kBig ((ms.length : Int) * 262144 + q * 512) else 0) →
      Own (taken r fr hs W3 b F G n t ns i nd ((top :: ms) ++ [f]) ++ SlO s' 1 (intsV ((top :: ms) ++ [f])) :: R) A9 →
      ∃ m8, m8 < needK fr - ms.length ∧ ∃ (ms' : List Int) (W' : Int → Int → Int), IntKind.wrap .i64 ((ms.length : Int) * 262144 + 262144) = (ms'.length : Int) * 262144 ∧ ms'.length ≤ needK fr ∧ needK fr - ms'.length = m8 ∧ KOK fr W top ms' W' ∧ (∀ x ∈ top :: ms', F x) ∧ s'.len = ms'.length + 1 ∧ s'.a ≠ none ∧ ((top :: ms').length : Int) ≤ nd.quo - nd.use - nd.lent ∧ ((top :: ms').length : Int) ≤ n ∧
        Own (taken r fr hs W' b F G n t ns i nd (top :: ms') ++ SlO s' 1 (intsV (top :: ms')) :: R) A9 := by
    intro W3 A9 g1 g2 hA9
    have hl2 : (ms ++ [f]).length = ms.length + 1 := by simp
    refine ⟨needK fr - (ms.length + 1), by omega, ms ++ [f], W3, by rw [hl2, w64] <;> omega, by omega, by omega, hK.step hfn g1 g2, fun x hx => ?_, by rw [hl2]; simp only [j1, i5], fun q => by have := j2 q; simp [intsV] at this, by simp only [List.length_cons, hl2]; omega, by simp only [List.length_cons, hl2]; omega, hA9⟩
    rcases List.mem_cons.1 hx with rfl | hx
    · exact hFt
    · rcases List.mem_append.1 hx with hx | hx
      · exact i4 x (List.mem_cons_of_mem _ hx)
      · simp at hx; subst hx; exact hFf
  refine ⟨fun x m h' => ∃ (q : Nat) (W3 : Int → Int → Int), x = q ∧ q ≤ 512 ∧ 512 - q = m ∧ (∀ f', f' ≠ f → W3 f' = setW (zeroW W' f) top ms.length (kEnt f) f') ∧ (∀ q' : Nat, q' < 512 → W3 f q' = if q' < q ∧ (ms.length : Int) * 262144 + q' * 512 < fr then kBig ((ms.length : Int) * 262144 + q' * 512) else 0) ∧
    Own (taken r fr hs W3 b F G n t ns i nd ((top :: ms) ++ [f]) ++ SlO s' 1 (intsV ((top :: ms) ++ [f])) :: R) h', ⟨_, 0, _, rfl, by omega, rfl, fun _ _ => rfl, fun q' _ => ?_, hA7⟩, ?_⟩
  · rw [if_neg (by omega), setW_ne hft]
    unfold zeroW
    rw [if_pos rfl]
  intro x m A8 ⟨q, W3, k1, k2, k3, k4, k5, hA8⟩
  subst k1 k3
  apply bsel_in
  rotate_left
  · intro d3
    have d3 : q = 512 := by simp at d3; omega
    refine fin W3 A8 k4 (fun q' hq' => ?_) hA8
    rw [k5 q' hq']
    by_cases g : (ms.length : Int) * 262144 + q' * 512 < fr
    · rw [if_pos g, if_pos ⟨by omega, g⟩]
    · rw [if_neg g, if_neg (fun z => g z.2)]
  intro d3
  have d3 : q < 512 := by simp at d3; omega
  refine Frames_head hA8 ?_
  rw [big_at hj4 d3]
  refine bsel_in (fun d4 => ?_) fun d4 => ?_
  rotate_left
  · have d4 : ¬ ((ms.length : Int) * 262144 + q * 512 < fr) := by simpa using d4
    refine fin W3 A8 k4 (fun q' hq' => ?_) hA8
    rw [k5 q' hq']
    by_cases g : (ms.length : Int) * 262144 + q' * 512 < fr
    · rw [if_pos g, if_pos ⟨by omega, g⟩]
    · rw [if_neg g, if_neg (fun z => g z.2)]
  have d4 : (ms.length : Int) * 262144 + q * 512 < fr := by simpa using d4
  refine put_head hA8 (hF f hFf) ⟨by omega, by omega⟩ ⟨by omega, by omega⟩ fun A9 hA9 => ?_
  refine ⟨512 - (q + 1), by omega, q + 1, _, by rw [w64] <;> omega, by omega, rfl, fun f' hf' => ?_, fun q' hq' => ?_, hA9⟩
  · rw [setW_ne hf']; exact k4 f' hf'
  · unfold setW
    by_cases g : q' = q
    · subst g
      rw [if_pos ⟨rfl, rfl⟩, if_pos ⟨by omega, d4⟩]
      rfl
    · rw [if_neg (by omega), k5 q' hq']
      by_cases g2 : (ms.length : Int) * 262144 + q' * 512 < fr
      · by_cases g3 : q' < q
        · rw [if_pos ⟨g3, g2⟩, if_pos ⟨by omega, g2⟩]
        · rw [if_neg (by omega), if_neg (by omega)]
      · rw [if_neg (fun z => g2 z.2), if_neg (fun z => g2 z.2)]
end Go.Dn
/- Tables in a tree: what their words say; what each step makes of them. -/
namespace Go.Dn

structure Lf where
  frame : Int
  w : Bool
  u : Bool
  x : Bool
def entW (g : Int) : Int := packZ true true true false false false false false g
def leafW (l : Lf) : Int := packZ true l.w l.u false false false false (!l.x) l.frame
def wordT (o : Option Int) : Int := match o with | some g => entW g | none => 0
def wordL (o : Option Lf) : Int := match o with | some l => leafW l | none => 0
abbrev Tab := Nat → Int → Option Int
/-- The words of the tables from a root on. -/
structure TabW (W : Int → Int → Int) (root : Int) (tab : Tab) (lf : Int → Option Lf) : Prop where
  root : ∀ q f, tab 0 q = some f ↔ q = 0 ∧ f = root
  deep : ∀ k q, 3 < k → tab k q = none
  words : ∀ k q f, k < 3 → tab k q = some f → ∀ j, 0 ≤ j → j < 512 → (k = 0 → j < 256) → W f j = wordT (tab (k + 1) (q * 512 + j))
  leaves : ∀ q f, tab 3 q = some f → ∀ j, 0 ≤ j → j < 512 → W f j = wordL (lf (q * 512 + j))
  up : ∀ k q f, tab (k + 1) q = some f → ∃ g, tab k (q / 512) = some g ∧ 0 ≤ q ∧ (k = 0 → q < 256)
  upL : ∀ p l, lf p = some l → ∃ g, tab 3 (p / 512) = some g ∧ 0 ≤ p
  apart : ∀ k q k' q' f, tab k q = some f → tab k' q' = some f → k = k' ∧ q = q'
  range : ∀ k q f, tab k q = some f → 0 ≤ f ∧ f < 1048576
  rangeL : ∀ p l, lf p = some l → 0 ≤ l.frame ∧ l.frame < 1048576
def setT (tab : Tab) (k : Nat) (q : Int) (o : Option Int) : Tab := fun k' q' => if k' = k ∧ q' = q then o else tab k' q'
def setL (lf : Int → Option Lf) (p : Int) (o : Option Lf) : Int → Option Lf := fun p' => if p' = p then o else lf p'
variable {W : Int → Int → Int} {root : Int} {tab : Tab} {lf : Int → Option Lf}
theorem TabW.congr {W' : Int → Int → Int} (h : TabW W root tab lf) (hW : ∀ k q f, tab k q = some f → W' f = W f) : TabW W' root tab lf :=
  ⟨h.root, h.deep, fun k q f hk hf j h0 h1 h2 => by rw [hW k q f hf]; exact h.words k q f hk hf j h0 h1 h2, fun q f hf j h0 h1 => by rw [hW 3 q f hf]; exact h.leaves q f hf j h0 h1, h.up, h.upL, h.apart, h.range, h.rangeL⟩
/-- A leaf more, or less. -/
theorem TabW.leaf (h : TabW W root tab lf) {p f : Int} {o : Option Lf} (hf : tab 3 (p / 512) = some f) (hp : 0 ≤ p) (ho : ∀ l, o = some l → 0 ≤ l.frame ∧ l.frame < 1048576) :
    TabW (setW W f (p % 512) (wordL o)) root tab (setL lf p o) := by
  refine ⟨h.root, h.deep, fun k q g hk hg j h0 h1 h2 => ?_, fun q g hg j h0 h1 => ?_, h.up, fun p' l hl => ?_, h.apart, h.range, fun p' l hl => ?_⟩
  · have hne : g ≠ f := fun e => by
      subst e
      have := (h.apart k q 3 _ _ hg hf).1
      omega
    rw [setW_ne hne]
    exact h.words k q g hk hg j h0 h1 h2
  · by_cases e : g = f
    · subst e
      obtain ⟨_, e2⟩ := h.apart 3 q 3 _ _ hg hf
      unfold setW setL
      by_cases e3 : j = p % 512
      · rw [if_pos ⟨rfl, e3⟩, if_pos (by omega)]
      · rw [if_neg (fun z => e3 z.2), if_neg (by omega)]
        exact h.leaves q g hg j h0 h1
    · rw [setW_ne e]
      have : q * 512 + j ≠ p := fun e2 => by
        have : q = p / 512 := by omega
        rw [this] at hg
        rw [hg] at hf
        cases hf
        exact e rfl
      unfold setL
      rw [if_neg this]
      exact h.leaves q g hg j h0 h1
  · unfold setL at hl
    split at hl
    · rename_i e
      rw [e]
      exact ⟨f, hf, hp⟩
    · exact h.upL p' l hl
  · unfold setL at hl
    split at hl
    · exact ho l hl
    · exact h.rangeL p' l hl
/-- A fresh table becomes a child. -/
theorem TabW.link (h : TabW W root tab lf) {k : Nat} {q j f g : Int} (hk : k < 3) (hf : tab k q = some f) (hq : 0 ≤ q) (hj : 0 ≤ j ∧ j < 512) (h0 : k = 0 → j < 256) (hn : tab (k + 1) (q * 512 + j) = none)
    (hg : ∀ k' q', tab k' q' ≠ some g) (hz : ∀ i, 0 ≤ i → i < 512 → W g i = 0) (hr : 0 ≤ g ∧ g < 1048576) :
    TabW (setW W f j (entW g)) root (setT tab (k + 1) (q * 512 + j) (some g)) lf := by
  have hfg : f ≠ g := fun e => hg k q (by rw [hf, e])
  have old : ∀ k' q' f', tab k' q' = some f' → setT tab (k + 1) (q * 512 + j) (some g) k' q' = some f' := by
    intro k' q' f' h1
    unfold setT
    split
    · rename_i e
      obtain ⟨rfl, rfl⟩ := e
      rw [hn] at h1; cases h1
    · exact h1
  have cases' : ∀ k' q' f', setT tab (k + 1) (q * 512 + j) (some g) k' q' = some f' → (k' = k + 1 ∧ q' = q * 512 + j ∧ f' = g) ∨ tab k' q' = some f' := by
    intro k' q' f' h1
    unfold setT at h1
    split at h1
    · rename_i e
      cases h1
      exact .inl ⟨e.1, e.2, rfl⟩
    · exact .inr h1
  refine ⟨fun q' f' => ?_, fun k' q' hk' => ?_, fun k' q' f' hk' hf' i i0 i1 i2 => ?_, fun q' f' hf' i i0 i1 => ?_, fun k' q' f' hf' => ?_, fun p l hl => ?_, fun k1 q1 k2 q2 f' h1 h2 => ?_, fun k' q' f' hf' => ?_, h.rangeL⟩
  · unfold setT
    rw [if_neg (fun e => by omega)]
    exact h.root q' f'
  · unfold setT
    rw [if_neg (fun e => by omega)]
    exact h.deep k' q' hk'
  · rcases cases' _ _ _ hf' with ⟨rfl, rfl, rfl⟩ | hf'
    · rw [setW_ne (Ne.symm hfg), hz i i0 i1]
      have : tab (k + 1 + 1) ((q * 512 + j) * 512 + i) = none := by
        cases e : tab (k + 1 + 1) ((q * 512 + j) * 512 + i) with
        | none => rfl
        | some z =>
          obtain ⟨g', h1, _⟩ := h.up _ _ _ e
          rw [show ((q * 512 + j) * 512 + i) / 512 = q * 512 + j by omega, hn] at h1
          cases h1
      unfold setT
      rw [if_neg (fun e => by omega), this]; rfl
    · by_cases e : f' = f
      · obtain ⟨ek, eq⟩ := h.apart _ _ _ _ _ hf' (by rw [e]; exact hf)
        rw [e, ek, eq]
        unfold setW setT
        by_cases e3 : i = j
        · rw [if_pos ⟨rfl, e3⟩, if_pos ⟨rfl, by rw [e3]⟩]; rfl
        · rw [if_neg (fun z => e3 z.2), if_neg (fun z => e3 (by omega))]
          exact h.words k q f hk hf i i0 i1 (fun z => i2 (by omega))
      · rw [setW_ne e]
        have : ¬(k' + 1 = k + 1 ∧ q' * 512 + i = q * 512 + j) := fun z => by
          have e1 : k' = k := by omega
          have e2 : q' = q := by omega
          rw [e1, e2, hf] at hf'
          cases hf'
          exact e rfl
        unfold setT
        rw [if_neg this]
        exact h.words _ _ _ hk' hf' i i0 i1 i2
  · rcases cases' _ _ _ hf' with ⟨e1, rfl, rfl⟩ | hf'
    · rw [setW_ne (Ne.symm hfg), hz i i0 i1]
      have : lf ((q * 512 + j) * 512 + i) = none := by
        cases e : lf ((q * 512 + j) * 512 + i) with
        | none => rfl
        | some z =>
          obtain ⟨g', h1, _⟩ := h.upL _ _ e
          rw [show ((q * 512 + j) * 512 + i) / 512 = q * 512 + j by omega, e1, hn] at h1
          cases h1
      rw [this]; rfl
    · have hne : f' ≠ f := fun e => by
        subst e
        have := (h.apart _ _ _ _ _ hf' hf).1
        omega
      rw [setW_ne hne]
      exact h.leaves q' f' hf' i i0 i1
  · rcases cases' _ _ _ hf' with ⟨e1, rfl, rfl⟩ | hf'
    · have e1 : k' = k := by omega
      subst e1
      exact ⟨f, by rw [show (q * 512 + j) / 512 = q by omega]; exact old _ _ _ hf, by omega, fun e => by
        have := (h.root q f).1 (by rw [← e]; exact hf)
        have := h0 e
        omega⟩
    · obtain ⟨g', h1, h2⟩ := h.up _ _ _ hf'
      exact ⟨g', old _ _ _ h1, h2⟩
  · obtain ⟨g', h1, h2⟩ := h.upL p l hl
    exact ⟨g', old _ _ _ h1, h2⟩
  · rcases cases' _ _ _ h1 with ⟨a1, a2, a3⟩ | h1
    · rcases cases' _ _ _ h2 with ⟨b1, b2, b3⟩ | h2
      · exact ⟨a1.trans b1.symm, a2.trans b2.symm⟩
      · exact absurd (by rw [← a3]; exact h2) (hg k2 q2)
    · rcases cases' _ _ _ h2 with ⟨b1, b2, b3⟩ | h2
      · exact absurd (by rw [← b3]; exact h1) (hg k1 q1)
      · exact h.apart _ _ _ _ _ h1 h2
  · rcases cases' _ _ _ hf' with ⟨e1, e2, e3⟩ | hf'
    · rw [e3]; exact hr
    · exact h.range _ _ _ hf'
theorem ent_bits {g : Int} (hg : 0 ≤ g ∧ g < 1048576) : bitZ (entW g) 0 = true ∧ frameZ (entW g) = g ∧ entW g ≠ 0 ∧ U64 (entW g) := by
  obtain ⟨h0, _, _, _, _, _, _, _, h8, h9⟩ := pack_bits true true true false false false false false hg
  refine ⟨h0, h8, fun e => ?_, h9⟩
  have h0 : bitZ (entW g) 0 = true := h0
  rw [e] at h0
  cases h0
theorem leaf_bits {l : Lf} (hg : 0 ≤ l.frame ∧ l.frame < 1048576) : bitZ (leafW l) 0 = true ∧ bitZ (leafW l) 1 = l.w ∧ bitZ (leafW l) 2 = l.u ∧ bitZ (leafW l) 63 = !l.x ∧ frameZ (leafW l) = l.frame ∧ leafW l ≠ 0 ∧ U64 (leafW l) := by
  obtain ⟨h0, h1, h2, _, _, _, _, h7, h8, h9⟩ := pack_bits true l.w l.u false false false false (!l.x) hg
  refine ⟨h0, h1, h2, h7, h8, fun e => ?_, h9⟩
  have h0 : bitZ (leafW l) 0 = true := h0
  rw [e] at h0
  cases h0
theorem TabW.word0 (h : TabW W root tab lf) {k : Nat} {q j f : Int} (hk : k < 3) (hf : tab k q = some f) (hj : 0 ≤ j ∧ j < 512) (h0 : k = 0 → j < 256) : W f j = 0 ↔ tab (k + 1) (q * 512 + j) = none := by
  rw [h.words k q f hk hf j hj.1 hj.2 h0]
  cases e : tab (k + 1) (q * 512 + j) with
  | none => exact ⟨fun _ => rfl, fun _ => rfl⟩
  | some g => exact ⟨fun z => absurd z (ent_bits (h.range _ _ _ e)).2.2.1, fun z => by cases z⟩
theorem TabW.wordL0 (h : TabW W root tab lf) {q j f : Int} (hf : tab 3 q = some f) (hj : 0 ≤ j ∧ j < 512) : W f j = 0 ↔ lf (q * 512 + j) = none := by
  rw [h.leaves q f hf j hj.1 hj.2]
  cases e : lf (q * 512 + j) with
  | none => exact ⟨fun _ => rfl, fun _ => rfl⟩
  | some l => exact ⟨fun z => absurd z (leaf_bits (h.rangeL _ _ e)).2.2.2.2.2.1, fun z => by cases z⟩
/-- An empty table goes. -/
theorem TabW.unlink (h : TabW W root tab lf) {k : Nat} {q j f g : Int} (hk : k < 3) (hf : tab k q = some f) (hj : 0 ≤ j ∧ j < 512) (h0 : k = 0 → j < 256) (hg : tab (k + 1) (q * 512 + j) = some g) (hz : ∀ i, 0 ≤ i → i < 512 → W g i = 0) :
    TabW (setW W f j 0) root (setT tab (k + 1) (q * 512 + j) none) lf := by
  have hfg : f ≠ g := fun e => by
    have := (h.apart k q (k + 1) _ f hf (by rw [hg, e])).1
    omega
  have new : ∀ k' q' f', setT tab (k + 1) (q * 512 + j) none k' q' = some f' → tab k' q' = some f' ∧ ¬(k' = k + 1 ∧ q' = q * 512 + j) := by
    intro k' q' f' h1
    unfold setT at h1
    split at h1
    · cases h1
    · rename_i e; exact ⟨h1, e⟩
  have old : ∀ k' q' f', tab k' q' = some f' → ¬(k' = k + 1 ∧ q' = q * 512 + j) → setT tab (k + 1) (q * 512 + j) none k' q' = some f' := by
    intro k' q' f' h1 h2
    unfold setT
    rw [if_neg h2]; exact h1
  refine ⟨fun q' f' => ?_, fun k' q' hk' => ?_, fun k' q' f' hk' hf' i i0 i1 i2 => ?_, fun q' f' hf' i i0 i1 => ?_, fun k' q' f' hf' => ?_, fun p l hl => ?_, fun k1 q1 k2 q2 f' h1 h2 => ?_, fun k' q' f' hf' => ?_, h.rangeL⟩
  · unfold setT
    rw [if_neg (fun e => by omega)]
    exact h.root q' f'
  · unfold setT
    rw [if_neg (fun e => by omega)]
    exact h.deep k' q' hk'
  · obtain ⟨hx, hne⟩ := new _ _ _ hf'
    by_cases e : f' = f
    · obtain ⟨ek, eq⟩ := h.apart _ _ _ _ _ hx (by rw [e]; exact hf)
      rw [e, ek, eq]
      unfold setW setT
      by_cases e3 : i = j
      · rw [if_pos ⟨rfl, e3⟩, if_pos ⟨rfl, by rw [e3]⟩]; rfl
      · rw [if_neg (fun z => e3 z.2), if_neg (fun z => e3 (by omega))]
        exact h.words k q f hk hf i i0 i1 (fun z => i2 (by omega))
    · rw [setW_ne e]
      have : ¬(k' + 1 = k + 1 ∧ q' * 512 + i = q * 512 + j) := fun z => by
        have e1 : k' = k := by omega
        have e2 : q' = q := by omega
        rw [e1, e2, hf] at hx
        cases hx
        exact e rfl
      unfold setT
      rw [if_neg this]
      exact h.words _ _ _ hk' hx i i0 i1 i2
  · obtain ⟨hx, hne⟩ := new _ _ _ hf'
    have hne2 : f' ≠ f := fun e => by
      have := (h.apart _ _ _ _ _ hx (by rw [e]; exact hf)).1
      omega
    rw [setW_ne hne2]
    exact h.leaves q' f' hx i i0 i1
  · obtain ⟨hx, hne⟩ := new _ _ _ hf'
    obtain ⟨g', h1, h2⟩ := h.up _ _ _ hx
    refine ⟨g', old _ _ _ h1 fun z => ?_, h2⟩
    have hk2 : k + 1 < 3 := by
      rcases Nat.lt_or_ge (k' + 1) 4 with w | w
      · omega
      · rw [h.deep _ _ w] at hx; cases hx
    have hw := (h.word0 hk2 hg (j := q' % 512) ⟨by omega, by omega⟩ (fun e => by omega)).1 (hz _ (by omega) (by omega))
    rw [show (q * 512 + j) * 512 + q' % 512 = q' by omega, show k + 1 + 1 = k' + 1 by omega, hx] at hw
    cases hw
  · obtain ⟨g', h1, h2⟩ := h.upL p l hl
    refine ⟨g', old _ _ _ h1 fun z => ?_, h2⟩
    have e3 : k + 1 = 3 := z.1.symm
    rw [e3] at hg
    have hw := (h.wordL0 hg (j := p % 512) ⟨by omega, by omega⟩).1 (hz _ (by omega) (by omega))
    rw [show (q * 512 + j) * 512 + p % 512 = p by omega, hl] at hw
    cases hw
  · exact h.apart _ _ _ _ _ (new _ _ _ h1).1 (new _ _ _ h2).1
  · exact h.range _ _ _ (new _ _ _ hf').1
end Go.Dn
/- The tables that lead to a page. -/
namespace Go.Dn

variable {A : AH} {l R : List SP} {r : Nat} {fr : Int} {hs : List (Int × Int)} {W : Int → Int → Int} {root : Int} {tab : Tab} {lf : Int → Option Lf}
def preP (p : Int) : Nat → Int
  | 0 => 0
  | 1 => p / 134217728
  | 2 => p / 262144
  | 3 => p / 512
  | _ => p
def atP (p : Int) : Nat → Int
  | 0 => p / 134217728 % 512
  | 1 => p / 262144 % 512
  | 2 => p / 512 % 512
  | _ => p % 512
theorem preP_succ {p : Int} (hp : 0 ≤ p ∧ p < 34359738368) {k : Nat} (hk : k < 4) : preP p (k + 1) = preP p k * 512 + atP p k ∧ 0 ≤ atP p k ∧ atP p k < 512 ∧ (k = 0 → atP p k < 256) ∧ 0 ≤ preP p k := by
  obtain rfl | rfl | rfl | rfl : k = 0 ∨ k = 1 ∨ k = 2 ∨ k = 3 := by omega
  all_goals simp only [preP, atP]
  all_goals omega
theorem path_spec {p : Int} {Q : Int → Int → Int → Int → AH → Prop} (h : Own l A) (hp : 0 ≤ p ∧ p < 34359738368) (hk : ∀ A', Own l A' → Q (atP p 0) (atP p 1) (atP p 2) (atP p 3) A') : table_path_A p Q A := by
  unfold table_path_A table_path_G
  rw [wu64 (n := p) (by omega) (by omega), wu64 (by omega) (by omega)]
  refine Split_spec ⟨by omega, by omega⟩ h fun A' hA => ?_
  have e0 : partZ (p * 4096) 39 = atP p 0 := by simp only [partZ, atP]; omega
  have e1 : partZ (p * 4096) 30 = atP p 1 := by simp only [partZ, atP]; omega
  have e2 : partZ (p * 4096) 21 = atP p 2 := by simp only [partZ, atP]; omega
  have e3 : partZ (p * 4096) 12 = atP p 3 := by simp only [partZ, atP]; omega
  rw [e0, e1, e2, e3]
  exact hk A' hA
/-- A page's tables, as far as there are any. -/
structure DownOK (tab : Tab) (p : Int) (lst : List Int) : Prop where
  pos : 0 < lst.length
  le : lst.length ≤ 4
  is : ∀ c, c < lst.length → tab c (preP p c) = lst[c]?
  no : lst.length < 4 → tab lst.length (preP p lst.length) = none
def atCells (p : Int) : List Value := [.int .i64 (atP p 0), .int .i64 (atP p 1), .int .i64 (atP p 2), .int .i64 (atP p 3)]
theorem atCells_at {p : Int} {c : Nat} (hc : c < 4) : (atCells p)[c]? = some (.int .i64 (atP p c)) := by
  obtain rfl | rfl | rfl | rfl : c = 0 ∨ c = 1 ∨ c = 2 ∨ c = 3 := by omega
  all_goals rfl
set_option maxRecDepth 100000 in
theorem down_spec {p bx : Int} {pb pt : Option Addr} {Q : Sl → AH → Prop} (h : Own (RamW r fr hs W :: R) A) (hT : TabW W root tab lf) (hhas : ∀ k q f, tab k q = some f → hasF fr hs f = true) (hp : 0 ≤ p ∧ p < 34359738368)
    (hk : ∀ lst s A', DownOK tab p lst → s.len = lst.length → s.a ≠ none → Own (RamW r fr hs W :: SlO s 1 (intsV lst) :: R) A' → Q s A') : table_Purse_down_A (some ⟨r, 0, none⟩) pb pt bx root p Q A := by
  unfold table_Purse_down_A table_Purse_down_G
  refine path_spec h hp fun A1 h1 => ?_
  refine new_C (cs := [.int .i64 0, .int .i64 0, .int .i64 0, .int .i64 0]) h1 fun b6 A2 h2 => ?_
  simp only [add_at]
  refine st_C (i := 0) h2 rfl rfl rfl fun A3 h3 => st_C (i := 0) h3 rfl rfl rfl fun A4 h4 => st_C (i := 0) h4 rfl rfl rfl fun A5 h5 => st_C (i := 0) h5 rfl rfl rfl fun A6 h6 => ?_
  have h6 : Own (At b6 (atCells p) :: RamW r fr hs W :: R) A6 := h6
  refine new_C (cs := intsV [root]) h6 fun b12 A7 h7 => ?_
  have h7 : Own (SlO ⟨some ⟨b12, 0, none⟩, 1, 1⟩ 1 (intsV [root]) :: At b6 (atCells p) :: RamW r fr hs W :: R) A7 := h7.imp fun B hB => at_slo (k := 1) (sz := 1) rfl hB
  have h7 : Own (RamW r fr hs W :: SlO ⟨some ⟨b12, 0, none⟩, 1, 1⟩ 1 (intsV [root]) :: At b6 (atCells p) :: R) A7 := h7.rot3
  have hroot : tab 0 0 = some root := (hT.root 0 root).2 ⟨rfl, rfl⟩
  refine ⟨fun s h' => ∃ lst, DownOK tab p lst ∧ s.len = lst.length ∧ s.a ≠ none ∧ Own (RamW r fr hs W :: SlO s 1 (intsV lst) :: At b6 (atCells p) :: R) h', fun s h' ⟨lst, g1, g2, g3, g4⟩ => hk lst s h' g1 g2 g3 (g4.sub (List.Sublist.cons_cons _ (List.Sublist.cons_cons _ (List.sublist_cons_self _ _)))), ?_⟩
  refine ⟨fun s x m h' => ∃ (v : Nat) (lst : List Int), x = v ∧ v ≤ 3 ∧ 3 - v = m ∧ lst.length = v + 1 ∧ (∀ c, c < v + 1 → tab c (preP p c) = lst[c]?) ∧ s.len = v + 1 ∧ s.a ≠ none ∧ Own (RamW r fr hs W :: SlO s 1 (intsV lst) :: At b6 (atCells p) :: R) h',
    ⟨_, 0, [root], rfl, by omega, rfl, rfl, fun c hc => ?_, rfl, by simp, h7⟩, ?_⟩
  · have : c = 0 := by omega
    subst this
    exact hroot
  intro s x m A8 ⟨v, lst, i1, i2, i3, i4, i5, i6, i7, h8⟩
  subst i1 i3
  apply bsel_in
  rotate_left
  · intro d
    have d : v = 3 := by simp at d; omega
    subst d
    exact ⟨lst, ⟨by omega, by omega, fun c hc => i5 c (by omega), fun hc => by omega⟩, by omega, i7, h8⟩
  intro d
  have d : v < 3 := by simp at d; omega
  obtain ⟨f, hf⟩ : ∃ f, lst[v]? = some f := ⟨lst[v], by simp [i4]⟩
  have hfv := i5 v (by omega)
  rw [hf] at hfv
  obtain ⟨bb, o, q1, q2⟩ := rd_cell (i := 1) (P := SlO s 1 (intsV lst)) h8 rfl reads_slo (j := v) (v := .int .i64 f) (by simp only [intsV, List.getElem?_map, hf]; rfl)
  obtain ⟨e1, e2, e3, e4, e5⟩ := preP_succ hp (k := v) (by omega)
  have ldf : ∀ K : Int → Prop, K f → aI .i64 (Addr.add ⟨bb, o, none⟩ (Int.toNat (v : Int) * 1)) A8 K := fun K hK => ⟨f, by rw [add_at]; simpa using q2, hK⟩
  rw [q1]
  refine inB_in (by omega) (by omega) (inB_in (by omega) (by omega) (ldf _ ?_))
  refine ld_I (i := 2) h8 rfl (by rw [show 0 + Int.toNat (v : Int) * 1 = v by omega]; exact atCells_at (by omega)) ?_
  refine get_head h8 (hhas _ _ _ hfv) ⟨e2, e3⟩ fun A9 h9 => ?_
  have hw := hT.words v _ f d hfv (atP p v) e2 e3 e4
  rw [← e1] at hw
  cases hn : tab (v + 1) (preP p (v + 1)) with
  | none =>
    rw [hn] at hw
    rw [hw]
    exact bsel_t rfl ⟨lst, ⟨by omega, by omega, fun c hc => i5 c (by omega), fun _ => by rw [i4]; exact hn⟩, by omega, i7, h9⟩
  | some g =>
    rw [hn] at hw
    obtain ⟨w1, w2, _, _⟩ := ent_bits (hT.range _ _ _ hn)
    have hw : W f (atP p v) = entW g := hw
    rw [hw, w1, w2]
    refine bsel_f rfl ?_
    refine new_C (cs := intsV [g]) h9 fun b35 A10 h10 => ?_
    have h10 : Own (SlAt ⟨some ⟨b35, 0, none⟩, 1, 1⟩ 1 (intsV [g]) :: RamW r fr hs W :: SlO s 1 (intsV lst) :: At b6 (atCells p) :: R) A10 := h10.imp fun B hB => (at_slo (k := 1) (sz := 1) rfl hB).look
    have h10 : Own (SlO s 1 (intsV lst) :: SlAt ⟨some ⟨b35, 0, none⟩, 1, 1⟩ 1 (intsV [g]) :: RamW r fr hs W :: At b6 (atCells p) :: R) A10 := h10.pick 2 rfl
    refine ap_head (i := 0) h10 rfl (fun q => by cases q) (fun q => absurd q i7) rfl (fun x hx => ?_) ⟨by simp only [i6]; omega, by simp only [i6]; omega⟩ fun s' A11 j1 j2 h11 => ?_
    · simp [intsV] at hx; subst hx; rfl
    rw [← intsV_app] at h11
    refine ⟨3 - (v + 1), by omega, v + 1, lst ++ [g], by rw [w64] <;> omega, by omega, rfl, by simp [i4], fun c hc => ?_, by simp only [j1, i6], fun q => by have := j2 q; simp [intsV] at this, ?_⟩
    · by_cases g1 : c < v + 1
      · rw [List.getElem?_append_left (by omega)]; exact i5 c g1
      · have : c = v + 1 := by omega
        subst this
        rw [List.getElem?_append_right (by omega), hn, i4]; simp
    · exact (h11.sub (List.Sublist.cons_cons _ (List.sublist_cons_self _ _))).swap
end Go.Dn
/- What a page leads to. -/
namespace Go.Dn

variable {A : AH} {l R : List SP} {r : Nat} {fr : Int} {hs : List (Int × Int)} {W : Int → Int → Int} {root : Int} {tab : Tab} {lf : Int → Option Lf}
/-- Where a page leads somewhere all its tables are there. -/
theorem TabW.chain (h : TabW W root tab lf) {p : Int} {x : Lf} (hp : 0 ≤ p ∧ p < 34359738368) (hx : lf p = some x) : ∀ c, c < 4 → tab c (preP p c) ≠ none := by
  obtain ⟨f3, h3, _⟩ := h.upL p x hx
  obtain ⟨f2, h2, _⟩ := h.up 2 _ _ h3
  obtain ⟨f1, h1, _⟩ := h.up 1 _ _ h2
  have e2 : p / 512 / 512 = p / 262144 := by omega
  have e1 : p / 262144 / 512 = p / 134217728 := by omega
  rw [e2] at h2 h1
  rw [e1] at h1
  have h0 : tab 0 0 = some root := (h.root 0 root).2 ⟨rfl, rfl⟩
  intro c hc
  obtain rfl | rfl | rfl | rfl : c = 0 ∨ c = 1 ∨ c = 2 ∨ c = 3 := by omega
  · simp only [preP]; rw [h0]; simp
  · simp only [preP]; rw [h1]; simp
  · simp only [preP]; rw [h2]; simp
  · simp only [preP]; rw [h3]; simp
theorem DownOK.four {p : Int} {lst : List Int} (h : DownOK tab p lst) (hl : lst.length = 4) : ∃ f, lst[3]? = some f ∧ tab 3 (p / 512) = some f := by
  have := h.is 3 (by omega)
  refine ⟨lst[3], by simp [hl], ?_⟩
  rw [show p / 512 = preP p 3 from rfl, this]
  simp [hl]
set_option maxRecDepth 100000 in
theorem Query_spec {p bx : Int} {pb pt : Option Addr} {Q : Int → Bool → Bool → Bool → Bool → AH → Prop} (h : Own (RamW r fr hs W :: R) A) (hT : TabW W root tab lf) (hhas : ∀ k q f, tab k q = some f → hasF fr hs f = true)
    (hn : (p < 0 ∨ p ≥ 34359738368 ∨ lf p = none) → ∀ A', Own (RamW r fr hs W :: R) A' → Q 0 false false false false A')
    (hk : ∀ x, 0 ≤ p → p < 34359738368 → lf p = some x → ∀ A', Own (RamW r fr hs W :: R) A' → Q x.frame x.w x.u x.x true A') : table_Query_A (some ⟨r, 0, none⟩) pb pt bx root p Q A := by
  unfold table_Query_A table_Query_G
  refine ⟨fun _ _ _ h' => h' = A ∧ 0 ≤ p ∧ p < 34359738368, ?_, bsel_in (fun c => hn (.inl (by simpa using c)) A h) fun c => bsel_in (fun d => hn (.inr (.inl (by simpa using d))) A h) fun d => ⟨rfl, by simpa using c, by simpa using d⟩⟩
  intro _ _ _ A0 ⟨e0, p0, p1⟩
  subst e0
  refine down_spec h hT hhas ⟨p0, p1⟩ fun lst s A1 hD hl hsa h1 => ?_
  have hle := hD.le
  refine bsel_in (fun c => ?_) fun c => ?_
  · have c : lst.length < 4 := by simp [hl] at c; omega
    refine hn (.inr (.inr ?_)) A1 (h1.sub (List.Sublist.cons_cons _ (List.sublist_cons_self _ _)))
    cases hx : lf p with
    | none => rfl
    | some x => exact absurd (hD.no c) (hT.chain ⟨p0, p1⟩ hx _ c)
  have c : lst.length = 4 := by simp [hl] at c; omega
  obtain ⟨f, hf, ht⟩ := hD.four c
  have ld3 : ∀ B, Own (RamW r fr hs W :: SlO s 1 (intsV lst) :: R) B → ∀ a, s.a = some a → ∀ K : Int → Prop, K f → aI .i64 (Addr.add a 3) B K := by
    intro B hB a ha K hK
    obtain ⟨bb, o, q1, q2⟩ := rd_cell (i := 1) (P := SlO s 1 (intsV lst)) hB rfl reads_slo (j := 3) (v := .int .i64 f) (by simp only [intsV, List.getElem?_map, hf]; rfl)
    rw [q1] at ha
    cases ha
    exact ⟨f, by rw [add_at]; exact q2, hK⟩
  obtain ⟨a, ha⟩ : ∃ a, s.a = some a := by
    cases e : s.a with
    | none => exact absurd e hsa
    | some a => exact ⟨a, rfl⟩
  have ld3 := fun B hB => ld3 B hB a ha
  rw [ha]
  refine inB_in (by omega) (by simp [hl, c]) (ld3 _ h1 _ ?_)
  refine path_spec h1 ⟨p0, p1⟩ fun A2 h2 => ⟨ld3 _ h2 _ rfl, atP p 3, rfl, ?_⟩
  have hj : 0 ≤ atP p 3 ∧ atP p 3 < 512 := by simp only [atP]; omega
  refine get_head h2 (hhas _ _ _ ht) hj fun A3 h3 => ?_
  have hw := hT.leaves _ f ht (atP p 3) hj.1 hj.2
  rw [show p / 512 * 512 + atP p 3 = p by simp only [atP]; omega] at hw
  have h3' : Own (RamW r fr hs W :: R) A3 := h3.sub (List.Sublist.cons_cons _ (List.sublist_cons_self _ _))
  cases hx : lf p with
  | none =>
    rw [hx] at hw
    rw [hw]
    exact bsel_t rfl (hn (.inr (.inr hx)) A3 h3')
  | some x =>
    rw [hx] at hw
    have hw : W f (atP p 3) = leafW x := hw
    obtain ⟨b0, b1, b2, b3, b4, _, _⟩ := leaf_bits (hT.rangeL _ _ hx)
    rw [hw, b0, b1, b2, b3, b4, Bool.not_not]
    exact bsel_f rfl (hk x p0 p1 hx A3 h3')
end Go.Dn
/- A page that may be used otherwise. -/
namespace Go.Dn

variable {A : AH} {l R : List SP} {r : Nat} {fr : Int} {hs : List (Int × Int)} {W : Int → Int → Int} {root : Int} {tab : Tab} {lf : Int → Option Lf}
theorem DownOK.all {p : Int} {lst : List Int} {x : Lf} (h : DownOK tab p lst) (hT : TabW W root tab lf) (hp : 0 ≤ p ∧ p < 34359738368) (hx : lf p = some x) : lst.length = 4 := by
  have := h.le
  rcases Nat.lt_or_ge lst.length 4 with c | c
  · exact absurd (h.no c) (hT.chain hp hx _ c)
  · omega
theorem sl_some {s : Sl} (h : s.a ≠ none) : ∃ a, s.a = some a := by
  cases e : s.a with
  | none => exact absurd e h
  | some a => exact ⟨a, rfl⟩
/-- A number out of a list that a slice holds. -/
theorem ld_sl {l : List SP} {k : Nat} {s : Sl} {lst : List Int} {j : Nat} {f : Int} {a : Addr} {K : Int → Prop} (h : Own l A) (e : l[k]? = some (SlO s 1 (intsV lst))) (hf : lst[j]? = some f) (ha : s.a = some a) (hK : K f) : aI .i64 (Addr.add a j) A K := by
  obtain ⟨bb, o, q1, q2⟩ := rd_cell (i := k) (P := SlO s 1 (intsV lst)) h e reads_slo (j := j) (v := .int .i64 f) (by simp only [intsV, List.getElem?_map, hf]; rfl)
  rw [q1] at ha
  cases ha
  exact ⟨f, by rw [add_at]; exact q2, hK⟩
set_option maxRecDepth 100000 in
theorem Protect_spec {p bx : Int} {pb pt : Option Addr} {pw pu px : Bool} {Q : Int → AH → Prop} (h : Own (RamW r fr hs W :: R) A) (hT : TabW W root tab lf) (hhas : ∀ k q f, tab k q = some f → hasF fr hs f = true)
    (hn : (p < 0 ∨ p ≥ 34359738368 ∨ lf p = none) → ∀ A', Own (RamW r fr hs W :: R) A' → Q 5 A')
    (hk : ∀ x f, 0 ≤ p → p < 34359738368 → lf p = some x → tab 3 (p / 512) = some f → ∀ A', Own (RamW r fr hs (setW W f (p % 512) (leafW ⟨x.frame, pw, pu, px⟩)) :: R) A' → Q 0 A') :
    table_Protect_A (some ⟨r, 0, none⟩) pb pt bx root p pw pu px Q A := by
  unfold table_Protect_A table_Protect_G
  refine Query_spec h hT hhas (fun c A1 h1 => bsel_t rfl (hn c A1 h1)) fun x p0 p1 hx A1 h1 => bsel_f rfl ?_
  refine down_spec h1 hT hhas ⟨p0, p1⟩ fun lst s A2 hD hl hsa h2 => ?_
  have c := hD.all hT ⟨p0, p1⟩ hx
  obtain ⟨f, hf, ht⟩ := hD.four c
  obtain ⟨a, ha⟩ := sl_some hsa
  have hj : 0 ≤ atP p 3 ∧ atP p 3 < 512 := by simp only [atP]; omega
  rw [ha]
  refine inB_in (by omega) (by simp [hl, c]) (ld_sl (k := 1) h2 rfl hf ha ?_)
  refine path_spec h2 ⟨p0, p1⟩ fun A3 h3 => ⟨ld_sl (k := 1) h3 rfl hf ha rfl, atP p 3, rfl, ?_⟩
  unfold table_leaf_A
  exact ⟨ld_sl (k := 1) h3 rfl hf ha rfl, put_head h3 (hhas _ _ _ ht) hj (hT.rangeL _ _ hx) fun A4 h4 => hk x f p0 p1 hx ht A4 (h4.sub (List.Sublist.cons_cons _ (List.sublist_cons_self _ _)))⟩
end Go.Dn
/- A frame of zeros. -/
namespace Go.Dn

variable {A : AH} {l R : List SP} {r : Nat} {fr : Int} {hs : List (Int × Int)} {M : Int → Int} {W : Int → Int → Int}
theorem le_zero {M : Int → Int} (hb : ∀ a, 0 ≤ M a ∧ M a < 256) : ∀ (n : Nat) (a : Int), le M a n = 0 ↔ ∀ j : Nat, j < n → M (a + j) = 0
  | 0, a => by simp [le]
  | n + 1, a => by
    have ih := le_zero hb n (a + 1)
    have h1 := hb a
    have h2 := le_bound hb n (a + 1)
    simp only [le]
    constructor
    · intro h j hj
      have e1 : M a = 0 := by omega
      have e2 : le M (a + 1) n = 0 := by omega
      cases j with
      | zero => simpa using e1
      | succ j =>
        have := ih.1 e2 j (by omega)
        rw [show a + ((j + 1 : Nat) : Int) = a + 1 + j by omega]
        exact this
    · intro h
      have e1 : M a = 0 := by simpa using h 0 (by omega)
      have e2 : le M (a + 1) n = 0 := ih.2 fun j hj => by
        have := h (j + 1) (by omega)
        rw [show a + ((j + 1 : Nat) : Int) = a + 1 + j by omega] at this
        exact this
      rw [e1, e2]; rfl
theorem words_zero {M : Int → Int} (hb : ∀ a, 0 ≤ M a ∧ M a < 256) (t : Int) : (∀ i, 0 ≤ i → i < 512 → wordAt M t i = 0) ↔ ∀ j : Nat, j < 4096 → M (t * 4096 + j) = 0 := by
  unfold wordAt
  constructor
  · intro h j hj
    have := (le_zero hb 8 _).1 (h ((j / 8 : Nat) : Int) (by omega) (by omega)) (j % 8) (by omega)
    rw [show t * 4096 + 8 * ((j / 8 : Nat) : Int) + ((j % 8 : Nat) : Int) = t * 4096 + j by omega] at this
    exact this
  · intro h i h0 h1
    refine (le_zero hb 8 _).2 fun j hj => ?_
    have := h (8 * i.toNat + j) (by omega)
    rw [show t * 4096 + ((8 * i.toNat + j : Nat) : Int) = t * 4096 + 8 * i + j by omega] at this
    exact this
set_option maxRecDepth 100000 in
theorem Clear_head {t : Int} {Q : Bool → AH → Prop} (h : Own (RamW r fr hs W :: R) A) (ht : 0 ≤ t) (hz : (∀ i, 0 ≤ i → i < 512 → W t i = 0) → Q true A) (hn : (¬∀ i, 0 ≤ i → i < 512 → W t i = 0) → Q false A) : ram_RAM_Clear_A (some ⟨r, 0, none⟩) t Q A := by
  obtain ⟨M, ⟨h1, h2⟩, hh⟩ := RamW.openH h
  obtain ⟨s, mb, pm, ok, ho⟩ := RamS.open (i := 0) hh rfl
  have hW : (∀ i, 0 ≤ i → i < 512 → W t i = 0) ↔ ∀ j : Nat, j < 4096 → M (t * 4096 + j) = 0 := by
    rw [← words_zero ok.byte t]
    exact ⟨fun g i i0 i1 => by rw [← h2 t i ht i0 i1]; exact g i i0 i1, fun g i i0 i1 => by rw [h2 t i ht i0 i1]; exact g i i0 i1⟩
  unfold ram_RAM_Clear_A
  show aM (Addr.add ⟨r, 0, none⟩ 2) A _
  rw [add_at]
  refine ld_M (i := 0) ho rfl rfl (lk_M (i := 2) ho rfl ?_)
  rw [pm_lookup]
  cases hp : pm.lookup t with
  | none =>
    refine ⟨none, rfl, bsel_t rfl (hz (hW.2 fun j hj => ok.zero _ (by omega) ?_))⟩
    rw [show (t * 4096 + (j : Int)) / 4096 = t by omega]
    exact lookup_none hp
  | some b =>
    refine ⟨some ⟨b, 0, none⟩, rfl, bsel_f rfl ?_⟩
    obtain ⟨q, hq1, hq2⟩ := pages_at (M := M) (lookup_mem hp)
    have hcell : ∀ i, i < 4096 → cellA A ((⟨b, 0, none⟩ : Addr).add i) = some (.int .u8 (M (t * 4096 + i))) := by
      intro i hi
      rw [add_at]
      refine cell_at (i := 3 + q) (cs := pageCells M t) ?_ ho ?_
      · show (_ :: _ :: _ :: PagesAt M pm)[3 + q]? = _
        rw [show 3 + q = q + 3 by omega]
        exact hq2
      · rw [Nat.zero_add]; exact page_at hi
    have hpl : (pageCells M t).length = 4096 := by simp [pageCells]
    refine ⟨(pageCells M t).toArray, by simp [hpl], fun i hi => ⟨_, by rw [List.getElem?_toArray]; exact page_at hi, hcell i hi⟩, ?_⟩
    refine ⟨(List.range 4096).map fun (i : Nat) => UInt8.ofNat (M (t * 4096 + i)).toNat, List.replicate 4096 0, ?_, ?_, (List.length_map _).trans List.length_range, List.length_replicate, ?_⟩
    · unfold pageCells
      rw [List.map_map]
      refine congrArg List.toArray (List.map_congr_left fun i _ => ?_)
      have := ok.byte (t * 4096 + i)
      simp only [Function.comp, Go.Extern.Stop.cell]
      rw [UInt8.toNat_ofNat']
      congr 1
      rw [Nat.mod_eq_of_lt (by omega)]
      exact (Int.toNat_of_nonneg this.1).symm
    · rw [List.map_replicate, ← List.toArray_replicate]; rfl
    · by_cases g : ∀ j : Nat, j < 4096 → M (t * 4096 + j) = 0
      · have e : ((List.range 4096).map fun (i : Nat) => UInt8.ofNat (M (t * 4096 + i)).toNat) = List.replicate 4096 0 := by
          rw [List.eq_replicate_iff]
          refine ⟨by simp, fun x hx => ?_⟩
          obtain ⟨i, hi, rfl⟩ := List.mem_map.1 hx
          rw [g i (by simpa using hi)]; rfl
        rw [e]
        have : (List.replicate 4096 (0 : UInt8) == List.replicate 4096 0) = true := beq_self_eq_true _
        rw [this]
        exact hz (hW.2 g)
      · have e : (((List.range 4096).map fun (i : Nat) => UInt8.ofNat (M (t * 4096 + i)).toNat) == List.replicate 4096 0) = false := by
          rw [beq_eq_false_iff_ne]
          intro e
          refine g fun j hj => ?_
          have h3 : ((List.range 4096).map fun (i : Nat) => UInt8.ofNat (M (t * 4096 + i)).toNat)[j]? = (List.replicate 4096 (0 : UInt8))[j]? := by rw [e]
          rw [List.getElem?_map, List.getElem?_range hj, List.getElem?_replicate, if_pos hj] at h3
          simp only [Option.map_some, Option.some.injEq] at h3
          have h4 := congrArg UInt8.toNat h3
          rw [UInt8.toNat_ofNat'] at h4
          have := ok.byte (t * 4096 + j)
          have h5 : (M (t * 4096 + j)).toNat % 256 = 0 := h4
          omega
        rw [e]
        exact hn fun g2 => g (hW.1 g2)
end Go.Dn
/- A page less: tables that have nothing any more are given back. -/
namespace Go.Dn

variable {A : AH} {l R : List SP} {r b t i : Nat} {fr n : Int} {hs : List (Int × Int)} {W : Int → Int → Int} {F G : Int → Prop} {ns : List Nd} {nd : Nd} {root : Int} {tab : Tab} {lf : Int → Option Lf}
/-- The tables without those of a page below a depth. -/
def cutT (tab : Tab) (p : Int) (v : Nat) : Tab := fun k q => if v < k ∧ q = preP p k then none else tab k q
theorem cutT_step {p : Int} {v : Nat} {tab : Tab} (hd : ∀ k q, 3 < k → tab k q = none) (hv : v < 3) : setT (cutT tab p (v + 1)) (v + 1) (preP p (v + 1)) none = cutT tab p v := by
  funext k q
  unfold setT cutT
  by_cases e : k = v + 1
  · subst e
    by_cases e2 : q = preP p (v + 1)
    · rw [if_pos ⟨rfl, e2⟩, if_pos ⟨by omega, e2⟩]
    · rw [if_neg (fun z => e2 z.2), if_neg (fun z => e2 z.2), if_neg (fun z => e2 z.2)]
  · rw [if_neg (fun z => e z.1)]
    by_cases e2 : v < k ∧ q = preP p k
    · rw [if_pos ⟨by omega, e2.2⟩, if_pos e2]
    · rw [if_neg (fun z => e2 ⟨by omega, z.2⟩), if_neg e2]
theorem cutT_three {p : Int} {tab : Tab} (hd : ∀ k q, 3 < k → tab k q = none) : cutT tab p 3 = tab := by
  funext k q
  unfold cutT
  by_cases e : 3 < k ∧ q = preP p k
  · rw [if_pos e, hd k q e.1]
  · rw [if_neg e]
def gone (lst : List Int) (v : Nat) : List Int := lst.drop (v + 1)
def undone (r : Nat) (fr : Int) (hs : List (Int × Int)) (W : Int → Int → Int) (b : Nat) (F G : Int → Prop) (n : Int) (t : Nat) (ns : List Nd) (i : Nat) (nd : Nd) (tk : List Int) : List SP :=
  [RamW r fr hs W, Bud b (fun x => F x ∨ x ∈ tk) (fun x => G x ∧ x ∉ tk) (n + tk.length), TreeS t (useN ns i nd (nd.use - tk.length))]
theorem undone_nil (hi : ns[i]? = some nd) (h : Own (RamW r fr hs W :: Bud b F G n :: TreeS t ns :: R) A) : Own (undone r fr hs W b F G n t ns i nd [] ++ R) A := by
  have e : useN ns i nd (nd.use - (([] : List Int).length : Int)) = ns := by
    simp only [List.length_nil]
    rw [show nd.use - ((0 : Nat) : Int) = nd.use by omega]
    exact useN_same hi
  unfold undone
  rw [e]
  exact h.cons fun C hC => Bud.congr (fun x => by simp) (fun x => by simp) (by simp) hC
theorem undone_give {f : Int} {tk : List Int} {Q : AH → Prop} (h : Own (undone r fr hs W b F G n t ns i nd tk ++ R) A) (hi : ns[i]? = some nd) (hlv : nd.live = true) (hu : tk.length < nd.use) (hf : G f) (hn : f ∉ tk)
    (hk : ∀ A', Own (undone r fr hs W b F G n t ns i nd (f :: tk) ++ R) A' → Q A') : table_Purse_Give_A (some ⟨r, 0, none⟩) (some ⟨b, 0, none⟩) (some ⟨t, 0, none⟩) i f Q A := by
  refine pGive_spec (nd := { nd with use := nd.use - tk.length }) h (useN_at hi _) hlv ⟨hf, hn⟩ (by simp; omega) fun A' hA => hk A' ?_
  rw [useN_use] at hA
  unfold undone
  rw [show nd.use - ((f :: tk).length : Int) = nd.use - tk.length - 1 by simp; omega]
  refine hA.cons fun C hC => Bud.congr (fun x => ?_) (fun x => ?_) (by simp; omega) hC
  · simp only [List.mem_cons, or_assoc]
    constructor
    · rintro (h1 | h1 | h1)
      · exact .inl h1
      · exact .inr (.inr h1)
      · exact .inr (.inl h1)
    · rintro (h1 | h1 | h1)
      · exact .inl h1
      · exact .inr (.inr h1)
      · exact .inr (.inl h1)
  · simp only [List.mem_cons, not_or]
    exact ⟨fun z => ⟨z.1.1, z.2, z.1.2⟩, fun z => ⟨⟨z.1, z.2.2⟩, z.2.1⟩⟩
set_option maxRecDepth 100000 in
set_option maxHeartbeats 2000000 in
theorem Unmap_spec {p : Int} {Q : Int → Int → AH → Prop} (h : Own (RamW r fr hs W :: Bud b F G n :: TreeS t ns :: R) A) (hi : ns[i]? = some nd) (hlv : nd.live = true) (hu : 3 ≤ nd.use ∨ ∀ p, lf p = none) (hG : ∀ x, G x → hasF fr hs x = true)
    (hT : TabW W root tab lf) (hTG : ∀ k q f, tab k q = some f → G f)
    (hn : (p < 0 ∨ p ≥ 34359738368 ∨ lf p = none) → ∀ A', Own (RamW r fr hs W :: Bud b F G n :: TreeS t ns :: R) A' → Q 0 5 A')
    (hk : ∀ x lst v W' A', 0 ≤ p → p < 34359738368 → lf p = some x → DownOK tab p lst → lst.length = 4 → v ≤ 3 → TabW W' root (cutT tab p v) (setL lf p none) → (v = 0 ∨ ∃ f j, lst[v]? = some f ∧ 0 ≤ j ∧ j < 512 ∧ W' f j ≠ 0) →
      (∀ f, f ∉ lst → W' f = W f) → Own (undone r fr hs W' b F G n t ns i nd (gone lst v) ++ R) A' → Q x.frame 0 A') :
    table_Unmap_A (some ⟨r, 0, none⟩) (some ⟨b, 0, none⟩) (some ⟨t, 0, none⟩) i root p Q A := by
  have hhas : ∀ k q f, tab k q = some f → hasF fr hs f = true := fun k q f hf => hG f (hTG k q f hf)
  unfold table_Unmap_A table_Unmap_G
  refine Query_spec h hT hhas (fun c A1 h1 => bsel_t rfl (hn c A1 h1)) fun x p0 p1 hx A1 h1 => bsel_f rfl ?_
  have hu : 3 ≤ nd.use := by
    rcases hu with hu | hu
    · exact hu
    · rw [hu p] at hx; cases hx
  refine path_spec h1 ⟨p0, p1⟩ fun A2 h2 => down_spec h2 hT hhas ⟨p0, p1⟩ fun lst s A3 hD hl hsa h3 => ?_
  refine new_C (cs := [.int .i64 0, .int .i64 0, .int .i64 0, .int .i64 0]) h3 fun b14 A4 h4 => ?_
  simp only [add_at]
  refine st_C (i := 0) h4 rfl rfl rfl fun A5 h5 => st_C (i := 0) h5 rfl rfl rfl fun A6 h6 => st_C (i := 0) h6 rfl rfl rfl fun A7 h7 => st_C (i := 0) h7 rfl rfl rfl fun A8 h8 => ?_
  have h8 : Own (At b14 (atCells p) :: RamW r fr hs W :: SlO s 1 (intsV lst) :: Bud b F G n :: TreeS t ns :: R) A8 := h8
  have h8 : Own (RamW r fr hs W :: Bud b F G n :: TreeS t ns :: SlO s 1 (intsV lst) :: At b14 (atCells p) :: R) A8 := (((h8.pick 2 rfl).pick 4 rfl).pick 4 rfl).pick 4 rfl
  have c := hD.all hT ⟨p0, p1⟩ hx
  obtain ⟨f, hf, ht⟩ := hD.four c
  obtain ⟨a, ha⟩ := sl_some hsa
  have hj : 0 ≤ atP p 3 ∧ atP p 3 < 512 := by simp only [atP]; omega
  have hdeep := hT.deep
  rw [ha]
  refine inB_in (by omega) (by simp [hl, c]) (ld_sl (k := 3) h8 rfl hf ha ?_)
  refine ld_I (i := 4) h8 rfl (atCells_at (c := 3) (by omega)) ?_
  have hrf := hT.range _ _ _ ht
  refine place_eq hrf hj (store_head h8 (hhas _ _ _ ht) hj (by constructor <;> omega) fun A9 h9 => ?_)
  have hleaf := hT.leaf (o := none) ht p0 (fun l hl => by cases hl)
  have hat : ∀ v, v < 4 → ∃ g, lst[v]? = some g ∧ tab v (preP p v) = some g := fun v hv => by
    refine ⟨lst[v], by simp [c, hv], ?_⟩
    rw [hD.is v (by omega)]; simp [c, hv]
  have hnd : lst.Nodup := by
    unfold List.Nodup
    rw [List.pairwise_iff_getElem]
    intro u v hu' hv huv e
    obtain ⟨g, g1, g2⟩ := hat u (by omega)
    obtain ⟨g', g1', g2'⟩ := hat v (by omega)
    rw [List.getElem?_eq_getElem hu'] at g1
    rw [List.getElem?_eq_getElem hv] at g1'
    have g1 := Option.some.inj g1
    have g1' := Option.some.inj g1'
    have e : g = g' := by rw [← g1, ← g1', e]
    subst e
    have := (hT.apart _ _ _ _ _ g2 g2').1
    omega
  refine ⟨fun y m h' => ∃ (v : Nat) (W1 : Int → Int → Int), y = v ∧ v = m ∧ v ≤ 3 ∧ TabW W1 root (cutT tab p v) (setL lf p none) ∧ (∀ f, f ∉ lst → W1 f = W f) ∧
      Own (undone r fr hs W1 b F G n t ns i nd (gone lst v) ++ SlO s 1 (intsV lst) :: At b14 (atCells p) :: R) h', ⟨3, 3, setW W f (atP p 3) 0, rfl, rfl, by omega, ?_, fun g hg => ?_, ?_⟩, ?_⟩
  · rw [cutT_three hdeep]; exact hleaf
  · have : f ∈ lst := List.mem_of_getElem? hf
    exact setW_ne (fun e => hg (e ▸ this))
  · have e : gone lst 3 = [] := by unfold gone; exact List.drop_eq_nil_of_le (by omega)
    rw [e]
    exact undone_nil hi h9
  intro y m A10 ⟨v, W1, j1, j2, j3, j4, j5, h10⟩
  subst j1 j2
  have hrest : ∀ {W2 : Int → Int → Int} {tk : List Int} {B : AH}, Own (undone r fr hs W2 b F G n t ns i nd tk ++ SlO s 1 (intsV lst) :: At b14 (atCells p) :: R) B → Own (undone r fr hs W2 b F G n t ns i nd tk ++ R) B := fun {W2 tk B} hB => by
    exact hB.sub ((List.Sublist.refl _).append ((List.sublist_cons_self _ _).trans (List.sublist_cons_self _ _)))
  apply bsel_in
  rotate_left
  · intro d
    have d : v = 0 := by simp at d; omega
    subst d
    exact hk x lst 0 W1 A10 p0 p1 hx hD c (by omega) j4 (.inl rfl) j5 (hrest h10)
  intro d
  obtain ⟨v, rfl⟩ : ∃ u, v = u + 1 := ⟨v - 1, by simp at d; omega⟩
  obtain ⟨g, hg, htg⟩ := hat (v + 1) (by omega)
  obtain ⟨g0, hg0, htg0⟩ := hat v (by omega)
  have hrg := hT.range _ _ _ htg
  have hrg0 := hT.range _ _ _ htg0
  obtain ⟨e1, e2, e3, e4, e5⟩ := preP_succ ⟨p0, p1⟩ (k := v) (by omega)
  refine inB_in (by omega) (by omega) ?_
  rw [show Int.toNat ((v + 1 : Nat) : Int) * 1 = v + 1 by omega]
  refine ld_sl (k := 3) h10 rfl hg ha (Clear_head h10 hrg.1 (fun hz => bsel_t rfl ?_) fun hz => bsel_f rfl ?_)
  rotate_left
  · refine hk x lst (v + 1) W1 A10 p0 p1 hx hD c j3 j4 (.inr ⟨g, ?_⟩) j5 (hrest h10)
    have ⟨q, hq⟩ := Classical.not_forall.1 hz
    have ⟨q0, hq⟩ := Classical.not_forall.1 hq
    have ⟨q1, hq⟩ := Classical.not_forall.1 hq
    exact ⟨q, hg, q0, q1, hq⟩
  rw [w64 (n := ((v + 1 : Nat) : Int) - 1) (by omega) (by omega), show ((v + 1 : Nat) : Int) - 1 = (v : Int) by omega]
  refine inB_in (by omega) (by omega) (inB_in (by omega) (by omega) ?_)
  rw [show Int.toNat (v : Int) * 1 = v by omega]
  refine ld_sl (k := 3) h10 rfl hg0 ha (ld_I (i := 4) h10 rfl (by rw [Nat.zero_add]; exact atCells_at (c := v) (by omega)) ?_)
  refine place_eq hrg0 ⟨e2, e3⟩ (store_head h10 (hhas _ _ _ htg0) ⟨e2, e3⟩ (by constructor <;> omega) fun A11 h11 => ?_)
  refine inB_in (by omega) (by omega) (ld_sl (k := 3) h11 rfl hg ha ?_)
  have hc0 : cutT tab p (v + 1) v (preP p v) = some g0 := by unfold cutT; rw [if_neg (by omega)]; exact htg0
  have hc1 : cutT tab p (v + 1) (v + 1) (preP p (v + 1)) = some g := by unfold cutT; rw [if_neg (by omega)]; exact htg
  have hun := j4.unlink (k := v) (q := preP p v) (j := atP p v) (by omega) hc0 ⟨e2, e3⟩ e4 (by rw [← e1]; exact hc1) hz
  rw [← e1, cutT_step hdeep (by omega)] at hun
  have hgone : gone lst v = g :: gone lst (v + 1) := by
    unfold gone
    have hlt : v + 1 < lst.length := by omega
    rw [List.drop_eq_getElem_cons hlt]
    have : lst[v + 1] = g := by
      have := List.getElem?_eq_getElem hlt
      rw [this] at hg
      exact Option.some.inj hg
    rw [this]
  have hgn : g ∉ gone lst (v + 1) := by
    have : (gone lst v).Nodup := hnd.sublist (List.drop_sublist _ _)
    rw [hgone] at this
    exact (List.nodup_cons.1 this).1
  have hlen : (gone lst (v + 1)).length < 3 := by unfold gone; simp only [List.length_drop, c]; omega
  have hgl : ((gone lst (v + 1)).length : Int) < nd.use := by omega
  refine undone_give (R := SlO s 1 (intsV lst) :: At b14 (atCells p) :: R) h11 hi hlv hgl (hTG _ _ _ htg) hgn fun A12 h12 => ?_
  refine ⟨v, by omega, v, setW W1 g0 (atP p v) 0, rfl, rfl, by omega, hun, fun f' hf' => ?_, by rw [hgone]; exact h12⟩
  have hne : f' ≠ g0 := fun e => by
    subst e
    exact hf' (List.mem_of_getElem? hg0)
  rw [setW_ne hne]
  exact j5 f' hf'
end Go.Dn
/- All pages that lead somewhere, rising. -/
namespace Go.Dn

variable {A : AH} {l R : List SP} {r o : Nat} {fr : Int} {hs : List (Int × Int)} {W : Int → Int → Int} {root : Int} {tab : Tab} {lf : Int → Option Lf}
/-- A slot that holds a slice of numbers. -/
def OutS (o : Nat) (out : List Int) : SP := fun B => ∃ s : Sl, (s.len = out.length ∧ (s.a = none → out = [])) ∧ Own [At o [.slice s.a s.len s.cap], SlO s 1 (intsV out)] B
theorem OutS.openH {out : List Int} (h : Own (OutS o out :: R) A) : ∃ s : Sl, (s.len = out.length ∧ (s.a = none → out = [])) ∧ Own (At o [.slice s.a s.len s.cap] :: SlO s 1 (intsV out) :: R) A := by
  obtain ⟨s, h⟩ := Own.ex h
  obtain ⟨h1, h⟩ := Own.pure h
  exact ⟨s, h1, h.flat⟩
theorem OutS.closeH {out : List Int} {s : Sl} (h1 : s.len = out.length) (h2 : s.a = none → out = []) (h : Own (At o [.slice s.a s.len s.cap] :: SlO s 1 (intsV out) :: R) A) : Own (OutS o out :: R) A :=
  (Own.app (l := [At o [.slice s.a s.len s.cap], SlO s 1 (intsV out)]) (r := R) h).imp fun _ hB => ⟨s, ⟨h1, h2⟩, hB⟩
theorem rise_len {N : Int} : ∀ (l : List Int) (lo : Int), l.Pairwise (· < ·) → (∀ x ∈ l, lo ≤ x ∧ x < N) → (l.length : Int) ≤ max 0 (N - lo)
  | [], lo, _, _ => by simp; omega
  | x :: r, lo, hp, hb => by
    obtain ⟨h1, h2⟩ := List.pairwise_cons.1 hp
    have hx := hb x List.mem_cons_self
    have := rise_len r (x + 1) h2 fun y hy => ⟨by have := h1 y hy; omega, (hb y (List.mem_cons_of_mem _ hy)).2⟩
    simp only [List.length_cons]
    omega
theorem see_spec {out : List Int} {p : Int} {Q : AH → Prop} (h : Own (OutS o out :: R) A) (hl : (out.length : Int) < 34359738368) (hk : ∀ A', Own (OutS o (out ++ [p]) :: R) A' → Q A') : table_Pages_1_A p (some ⟨o, 0, none⟩) Q A := by
  obtain ⟨s, ⟨h1, h2⟩, h⟩ := OutS.openH h
  unfold table_Pages_1_A
  refine ld_S (i := 0) h rfl rfl (new_C (cs := intsV [p]) h fun b3 A1 hA1 => ?_)
  have hA1 : Own (SlAt ⟨some ⟨b3, 0, none⟩, 1, 1⟩ 1 (intsV [p]) :: At o [.slice s.a s.len s.cap] :: SlO s 1 (intsV out) :: R) A1 := hA1.imp fun B hB => (at_slo (k := 1) (sz := 1) rfl hB).look
  have hA1 := hA1.pick 2 rfl
  refine ap_head (i := 0) hA1 rfl (fun q => by cases q) (fun q => by rw [h2 q]; rfl) rfl (fun x hx => ?_) ⟨by simp only [h1]; omega, by simp only [h1]; omega⟩ fun s' A2 j1 j2 hA2 => ?_
  · simp [intsV] at hx; subst hx; rfl
  rw [← intsV_app] at hA2
  have hA2 : Own (SlO s' 1 (intsV (out ++ [p])) :: SlAt ⟨some ⟨b3, 0, none⟩, 1, 1⟩ 1 (intsV [p]) :: At o [.slice s.a s.len s.cap] :: R) A2 := hA2
  refine st_C (i := 2) hA2 rfl rfl rfl fun A3 hA3 => hk A3 ?_
  have hA3 : Own (SlO s' 1 (intsV (out ++ [p])) :: SlAt ⟨some ⟨b3, 0, none⟩, 1, 1⟩ 1 (intsV [p]) :: At o [.slice s'.a s'.len s'.cap] :: R) A3 := hA3
  refine OutS.closeH (s := s') (by simp only [j1, h1, List.length_append]; rfl) (fun q => ?_) ?_
  · have := j2 q; simp [intsV] at this
  · exact (hA3.pick 2 rfl).sub (List.Sublist.cons_cons _ (List.Sublist.cons_cons _ (List.sublist_cons_self _ _)))
theorem or_front {q i : Int} (h0 : 0 ≤ q) (h1 : q < 67108864) (h2 : 0 ≤ i) (h3 : i < 512) : bits .or .i64 (IntKind.wrap .i64 (q * 2 ^ (9 : Nat))) i = q * 512 + i := by
  obtain ⟨q, rfl⟩ := Int.eq_ofNat_of_zero_le h0
  obtain ⟨i, rfl⟩ := Int.eq_ofNat_of_zero_le h2
  rw [show ((q : Int) * 2 ^ (9 : Nat)) = ((q * 512 : Nat) : Int) by simp, w64 (by omega) (by omega)]
  have e : bits .or .i64 ((q * 512 : Nat) : Int) ((i : Nat) : Int) = IntKind.wrap .i64 ((BitVec.ofInt 64 ((q * 512 : Nat) : Int) ||| BitVec.ofInt 64 ((i : Nat) : Int)).toNat : Int) := rfl
  rw [e, BitVec.toNat_or, BitVec.ofInt_natCast, BitVec.ofInt_natCast, BitVec.toNat_ofNat, BitVec.toNat_ofNat, Nat.mod_eq_of_lt (by omega), Nat.mod_eq_of_lt (by omega)]
  have := Nat.shiftLeft_add_eq_or_of_lt (b := i) (i := 9) (by omega) q
  rw [Nat.shiftLeft_eq] at this
  rw [show q * 512 = q * 2 ^ 9 by rfl, ← this, w64 (by omega) (by omega)]
  omega
def bdP : Nat → Int
  | 0 => 1
  | 1 => 256
  | 2 => 131072
  | _ => 67108864
/-- The pages below a prefix. -/
structure PagesOK (lf : Int → Option Lf) (d : Nat) (q : Int) (ps : List Int) : Prop where
  rise : ps.Pairwise (· < ·)
  mem : ∀ p, p ∈ ps ↔ (lf p ≠ none ∧ (0 ≤ p ∧ p < 34359738368) ∧ preP p d = q)
/-- The same, of places below one. -/
structure PagesL (lf : Int → Option Lf) (d : Nat) (q : Int) (v : Int) (ps : List Int) : Prop where
  rise : ps.Pairwise (· < ·)
  mem : ∀ p, p ∈ ps ↔ (lf p ≠ none ∧ (0 ≤ p ∧ p < 34359738368) ∧ preP p d = q ∧ atP p d < v)
theorem preP_lt {a c : Int} (ha : 0 ≤ a ∧ a < 34359738368) (hc : 0 ≤ c ∧ c < 34359738368) {d : Nat} (hd : d ≤ 4) (h : preP a d < preP c d) : a < c := by
  obtain rfl | rfl | rfl | rfl | rfl : d = 0 ∨ d = 1 ∨ d = 2 ∨ d = 3 ∨ d = 4 := by omega
  all_goals simp only [preP] at h
  all_goals omega
theorem PagesL.step {d : Nat} {q v : Int} {ps ps' : List Int} (hd : d < 4) (h : PagesL lf d q v ps) (h' : PagesOK lf (d + 1) (q * 512 + v) ps') (hv : 0 ≤ v ∧ v < 512) : PagesL lf d q (v + 1) (ps ++ ps') := by
  refine ⟨List.pairwise_append.2 ⟨h.rise, h'.rise, fun a ha c hc => ?_⟩, fun p => ?_⟩
  · obtain ⟨_, a1, a2, a3⟩ := (h.mem a).1 ha
    obtain ⟨_, c1, c2⟩ := (h'.mem c).1 hc
    refine preP_lt a1 c1 (d := d + 1) (by omega) ?_
    rw [(preP_succ a1 hd).1, c2, a2]
    omega
  · rw [List.mem_append, h.mem, h'.mem]
    constructor
    · rintro (⟨h1, h2, h3, h4⟩ | ⟨h1, h2, h3⟩)
      · exact ⟨h1, h2, h3, by omega⟩
      · obtain ⟨e1, e2, e3, _⟩ := preP_succ h2 hd
        rw [e1] at h3
        exact ⟨h1, h2, by omega, by omega⟩
    · rintro ⟨h1, h2, h3, h4⟩
      obtain ⟨e1, e2, e3, _⟩ := preP_succ h2 hd
      by_cases e : atP p d < v
      · exact .inl ⟨h1, h2, h3, e⟩
      · exact .inr ⟨h1, h2, by rw [e1, h3]; omega⟩
theorem PagesL.all {d : Nat} {q v : Int} {ps : List Int} (hd : d < 4) (h : PagesL lf d q v ps) (hv : v = 512 ∨ d = 0 ∧ v = 256) : PagesOK lf d q ps := by
  refine ⟨h.rise, fun p => ?_⟩
  rw [h.mem]
  constructor
  · rintro ⟨h1, h2, h3, _⟩; exact ⟨h1, h2, h3⟩
  · rintro ⟨h1, h2, h3⟩
    obtain ⟨_, e2, e3, e4, _⟩ := preP_succ h2 hd
    refine ⟨h1, h2, h3, ?_⟩
    rcases hv with rfl | ⟨hd0, rfl⟩
    · exact e3
    · exact e4 hd0
theorem PagesL.zero {d : Nat} {q : Int} (hd : d < 4) : PagesL lf d q 0 [] := by
  refine ⟨List.Pairwise.nil, fun p => ?_⟩
  simp only [List.not_mem_nil, false_iff]
  rintro ⟨_, h2, _, h4⟩
  have := (preP_succ h2 hd).2.1
  omega
set_option maxRecDepth 100000 in
set_option maxHeartbeats 2000000 in
theorem walk_spec {bx : Int} {pb pt : Option Addr} (hT : TabW W root tab lf) (hhas : ∀ k q f, tab k q = some f → hasF fr hs f = true) : ∀ (e d : Nat) (q f : Int) (out : List Int) (A : AH) (Q : AH → Prop), d + e = 4 → 1 ≤ e → 0 ≤ q → q < bdP d → Own (RamW r fr hs W :: OutS o out :: R) A → tab d q = some f →
    out.Pairwise (· < ·) → (∀ x ∈ out, (0 ≤ x ∧ x < 34359738368) ∧ preP x d < q) → (∀ ps A', PagesOK lf d q ps → Own (RamW r fr hs W :: OutS o (out ++ ps) :: R) A' → Q A') →
    table_Purse_walk_A e (some ⟨r, 0, none⟩) pb pt bx f e q (some ⟨o, 0, none⟩) Q A := by
  intro e
  induction e with
  | zero => intro d q f out A Q _ h1; omega
  | succ e ih =>
    intro d q f out A Q hde _ hq0 hq1 h ht hr1 hr2 hk
    have hd : d < 4 := by omega
    have hf := hhas _ _ _ ht
    unfold table_Purse_walk_A table_Purse_walk_G
    refine ⟨fun x m h' => ∃ (v : Nat) (ps : List Int), x = v ∧ 512 - v = m ∧ v ≤ 512 ∧ PagesL lf d q v ps ∧ Own (RamW r fr hs W :: OutS o (out ++ ps) :: R) h', ⟨_, 0, [], rfl, rfl, by omega, PagesL.zero hd, by rw [List.append_nil]; exact h⟩, ?_⟩
    intro x m A1 ⟨v, ps, i1, i2, i3, i4, h1⟩
    subst i1 i2
    have rise : ∀ {u : Int} {ps : List Int}, PagesL lf d q u ps → (out ++ ps).Pairwise (· < ·) := fun {u ps} hL => List.pairwise_append.2 ⟨hr1, hL.rise, fun a ha c hc => by
      obtain ⟨_, c1, c2, _⟩ := (hL.mem c).1 hc
      obtain ⟨a1, a2⟩ := hr2 a ha
      exact preP_lt a1 c1 (d := d) (by omega) (by omega)⟩
    have rng : ∀ x ∈ out ++ ps, 0 ≤ x ∧ x < 34359738368 := fun x hx => by
      rcases List.mem_append.1 hx with hx | hx
      · exact (hr2 x hx).1
      · exact ((i4.mem x).1 hx).2.1
    refine bsel_in (fun c => ?_) fun c => ?_
    rotate_left
    · have c : v = 512 := by simp at c; omega
      exact hk ps A1 (i4.all hd (.inl (by omega))) h1
    have c : v < 512 := by simp at c; omega
    refine ⟨fun h' => ∃ ps', PagesOK lf (d + 1) (q * 512 + v) ps' ∧ Own (RamW r fr hs W :: OutS o (out ++ ps ++ ps') :: R) h', ?_, ?_⟩
    · intro A2 ⟨ps', k1, k2⟩
      refine ⟨512 - (v + 1), by omega, v + 1, ps ++ ps', by rw [w64] <;> omega, rfl, by omega, i4.step hd k1 ⟨by omega, by omega⟩, ?_⟩
      rw [← List.append_assoc]; exact k2
    refine ⟨fun h' => h' = A1 ∧ (d = 0 → v < 256), ?_, ?_⟩
    rotate_left
    · refine bsel_in (fun g => ?_) fun g => ?_
      · have g : d = 0 := by simp at g; omega
        refine bsel_in (fun g2 => ?_) fun g2 => ⟨rfl, fun _ => by simp at g2; omega⟩
        have g2 : 256 ≤ v := by simp at g2; omega
        rcases Nat.lt_or_ge 256 v with g3 | g3
        · refine hk ps A1 ?_ h1
          refine ⟨i4.rise, fun p => ?_⟩
          rw [i4.mem]
          constructor
          · rintro ⟨z1, z2, z3, _⟩; exact ⟨z1, z2, z3⟩
          · rintro ⟨z1, z2, z3⟩
            obtain ⟨_, _, _, e4, _⟩ := preP_succ z2 hd
            exact ⟨z1, z2, z3, by have := e4 g; omega⟩
        · exact hk ps A1 (i4.all hd (.inr ⟨g, by omega⟩)) h1
      · have g : d ≠ 0 := by simp at g; omega
        exact ⟨rfl, fun z => absurd z g⟩
    intro A2 ⟨e2, hv2⟩
    subst e2
    have hq2 : q < 67108864 ∧ q * 512 + v < bdP (d + 1) ∨ d = 3 := by
      obtain rfl | rfl | rfl | rfl : d = 0 ∨ d = 1 ∨ d = 2 ∨ d = 3 := by omega
      · left; have := hv2 rfl; simp only [bdP] at hq1 ⊢; omega
      · left; simp only [bdP] at hq1 ⊢; omega
      · left; simp only [bdP] at hq1 ⊢; omega
      · right; rfl
    have hq3 : q < 67108864 := by
      rcases hq2 with z | z
      · exact z.1
      · subst z; exact hq1
    rw [or_front hq0 hq3 (by omega) (by omega)]
    refine get_head h1 hf ⟨by omega, by omega⟩ fun A3 h3 => ?_
    have nil : (∀ p, 0 ≤ p → p < 34359738368 → preP p (d + 1) = q * 512 + v → lf p = none) → ∃ ps', PagesOK lf (d + 1) (q * 512 + v) ps' ∧ Own (RamW r fr hs W :: OutS o (out ++ ps ++ ps') :: R) A3 := fun hno => by
      refine ⟨[], ⟨List.Pairwise.nil, fun p => ?_⟩, by rw [List.append_nil]; exact h3⟩
      simp only [List.not_mem_nil, false_iff]
      rintro ⟨z1, z2, z3⟩
      exact z1 (hno p z2.1 z2.2 z3)
    rcases Nat.lt_or_ge d 3 with d3 | d3
    · have hw := hT.words d q f d3 ht v (by omega) (by omega) (fun z => by have := hv2 z; omega)
      cases hn : tab (d + 1) (q * 512 + v) with
      | none =>
        rw [hn] at hw
        rw [hw]
        refine bsel_t rfl (nil fun p p0 p1 hp => ?_)
        cases hx : lf p with
        | none => rfl
        | some y => exact absurd (hp ▸ hn) (hT.chain ⟨p0, p1⟩ hx (d + 1) (by omega))
      | some g =>
        rw [hn] at hw
        obtain ⟨w1, w2, _, _⟩ := ent_bits (hT.range _ _ _ hn)
        have hw : W f v = entW g := hw
        rw [hw, w1, w2]
        refine bsel_f rfl (bsel_f (by simp; omega) ?_)
        rw [w64 (by omega) (by omega), show ((e + 1 : Nat) : Int) - 1 = (e : Int) by omega]
        refine ih (d + 1) (q * 512 + v) g (out ++ ps) A3 _ (by omega) (by omega) (by omega) ?_ h3 hn (rise i4) (fun x hx => ⟨rng x hx, ?_⟩) fun ps' A4 k1 k2 => ⟨ps', k1, k2⟩
        · rcases hq2 with z | z
          · exact z.2
          · omega
        · rcases List.mem_append.1 hx with hx | hx
          · obtain ⟨x1, x2⟩ := hr2 x hx
            obtain ⟨e1, e2, e3, _⟩ := preP_succ x1 hd
            rw [e1]; omega
          · obtain ⟨_, x1, x2, x3⟩ := (i4.mem x).1 hx
            obtain ⟨e1, e2, e3, _⟩ := preP_succ x1 hd
            rw [e1]; omega
    · have d3 : d = 3 := by omega
      subst d3
      have e0 : e = 0 := by omega
      subst e0
      have hw := hT.leaves q f ht v (by omega) (by omega)
      have h4 : ∀ p : Int, preP p (3 + 1) = p := fun p => rfl
      cases hn : lf (q * 512 + v) with
      | none =>
        rw [hn] at hw
        rw [hw]
        refine bsel_t rfl (nil fun p p0 p1 hp => ?_)
        rw [h4] at hp
        rw [hp]; exact hn
      | some y =>
        rw [hn] at hw
        have hw : W f v = leafW y := hw
        rw [hw, (leaf_bits (hT.rangeL _ _ hn)).1]
        refine bsel_f rfl (bsel_t rfl ?_)
        have hlen := rise_len (N := 34359738368) (out ++ ps) 0 (rise i4) rng
        have hq1 : q < 67108864 := hq1
        have hlast : ((out ++ ps).length : Int) < 34359738368 := by
          have h5 : (out ++ ps ++ [q * 512 + v]).Pairwise (· < ·) := List.pairwise_append.2 ⟨rise i4, by simp, fun a ha c hc => by
            simp only [List.mem_singleton] at hc
            subst hc
            rcases List.mem_append.1 ha with ha | ha
            · obtain ⟨x1, x2⟩ := hr2 a ha
              obtain ⟨e1, e2, e3, _⟩ := preP_succ x1 hd
              have : preP a (3 + 1) = a := rfl
              omega
            · obtain ⟨_, x1, x2, x3⟩ := (i4.mem a).1 ha
              obtain ⟨e1, e2, e3, _⟩ := preP_succ x1 hd
              have : preP a (3 + 1) = a := rfl
              omega⟩
          have := rise_len (N := 34359738368) _ 0 h5 fun x hx => by
            rcases List.mem_append.1 hx with hx | hx
            · exact rng x hx
            · simp only [List.mem_singleton] at hx; subst hx; omega
          simp only [List.length_append, List.length_singleton] at this ⊢
          omega
        refine see_spec h3.swap hlast fun A4 h4' => ⟨[q * 512 + v], ⟨by simp, fun p => ?_⟩, h4'.swap⟩
        rw [h4, List.mem_singleton]
        constructor
        · rintro rfl; exact ⟨by rw [hn]; simp, ⟨by omega, by omega⟩, rfl⟩
        · rintro ⟨_, _, z⟩; exact z
theorem Pages_spec {bx : Int} {pb pt : Option Addr} {Q : Sl → AH → Prop} (h : Own (RamW r fr hs W :: R) A) (hT : TabW W root tab lf) (hhas : ∀ k q f, tab k q = some f → hasF fr hs f = true)
    (hk : ∀ s ps A', s.len = ps.length → (s.a = none → ps = []) → ps.Pairwise (· < ·) → (∀ p, p ∈ ps ↔ (lf p ≠ none ∧ 0 ≤ p ∧ p < 34359738368)) → Own (RamW r fr hs W :: SlO s 1 (intsV ps) :: R) A' → Q s A') : table_Pages_A (some ⟨r, 0, none⟩) pb pt bx root Q A := by
  unfold table_Pages_A table_Pages_G
  refine new_C (cs := [.slice none 0 0]) h fun b1 A1 h1 => ?_
  have h1 : Own (OutS b1 [] :: RamW r fr hs W :: R) A1 := h1.imp fun B hB => ⟨Sl.nil, ⟨rfl, fun _ => rfl⟩, B, fun _ => none, fun _ => .inr rfl, Sub.refl _, (fun _ _ e => nomatch e), hB, fun _ => none, fun _ => none, fun _ => .inr rfl, Sub.refl _, Sub.refl _, SlO.nil, trivial⟩
  refine ⟨4, walk_spec hT hhas 4 0 0 root [] A1 _ (by omega) (by omega) (by omega) (by simp [bdP]) h1.swap ((hT.root 0 root).2 ⟨rfl, rfl⟩) List.Pairwise.nil (by simp) fun ps A2 k1 h2 => ?_⟩
  obtain ⟨s, ⟨s1, s2⟩, h2⟩ := OutS.openH h2.swap
  rw [List.nil_append] at s1 s2 h2
  refine ld_S (i := 0) h2 rfl rfl (hk s ps A2 s1 s2 k1.rise (fun p => ?_) (h2.tail.swap))
  rw [k1.mem]
  constructor
  · rintro ⟨z1, z2, _⟩; exact ⟨z1, z2⟩
  · rintro ⟨z1, z2⟩; exact ⟨z1, z2, rfl⟩
end Go.Dn
/- A root with the kernel's tables in it. -/
namespace Go.Dn

variable {A : AH} {l R : List SP} {r b t i : Nat} {fr n : Int} {hs : List (Int × Int)} {W : Int → Int → Int} {F G : Int → Prop} {ns : List Nd} {nd : Nd}
def tab0 (root : Int) : Tab := fun k q => if k = 0 ∧ q = 0 then some root else none
theorem TabW.init {root : Int} (hz : ∀ j, 0 ≤ j → j < 256 → W root j = 0) (hr : 0 ≤ root ∧ root < 1048576) : TabW W root (tab0 root) (fun _ => none) := by
  have key : ∀ k q f, tab0 root k q = some f → k = 0 ∧ q = 0 ∧ f = root := by
    intro k q f h
    unfold tab0 at h
    split at h
    · rename_i e
      cases h
      exact ⟨e.1, e.2, rfl⟩
    · cases h
  refine ⟨fun q f => ⟨fun h => ⟨(key _ _ _ h).2.1, (key _ _ _ h).2.2⟩, fun h => ?_⟩, fun k q hk => ?_, fun k q f hk hf j h0 h1 h2 => ?_, fun q f hf => ?_, fun k q f hf => ?_, fun p x hx => (by cases hx), fun k1 q1 k2 q2 f h1 h2 => ?_, fun k q f hf => ?_, fun p x hx => (by cases hx)⟩
  · unfold tab0
    rw [h.1, h.2, if_pos ⟨rfl, rfl⟩]
  · unfold tab0
    rw [if_neg (by omega)]
  · obtain ⟨rfl, rfl, rfl⟩ := key _ _ _ hf
    rw [hz j h0 (h2 rfl)]
    unfold tab0
    rw [if_neg (by omega)]
    rfl
  · have := (key _ _ _ hf).1
    omega
  · have := (key _ _ _ hf).1
    omega
  · obtain ⟨a1, a2, _⟩ := key _ _ _ h1
    obtain ⟨b1, b2, _⟩ := key _ _ _ h2
    exact ⟨a1.trans b1.symm, a2.trans b2.symm⟩
  · rw [(key _ _ _ hf).2.2]; exact hr
theorem Root_spec {kern : Int} {tk : List Int} {Q : Int → Int → AH → Prop} (h : Own (taken r fr hs W b F G n t ns i nd tk ++ R) A) (hi : ns[i]? = some nd) (hlv : nd.live = true) (hF : ∀ x, F x → hasF fr hs x = true) (hkn : 0 ≤ kern ∧ kern < 1048576)
    (hq : nd.quo - nd.use - nd.lent ≤ tk.length → Q 0 8 A) (hm : tk.length < nd.quo - nd.use - nd.lent → n = tk.length → ∀ A', Own (taken r fr hs W b F G n t ns i nd tk ++ R) A' → Q 0 7 A')
    (hk : tk.length < nd.quo - nd.use - nd.lent → n ≠ tk.length → ∀ f A', F f → f ∉ tk → Own (taken r fr hs (setW (zeroW W f) f 256 (kEnt kern)) b F G n t ns i nd (tk ++ [f]) ++ R) A' → Q f 0 A') :
    table_Root_A (some ⟨r, 0, none⟩) (some ⟨b, 0, none⟩) (some ⟨t, 0, none⟩) i kern Q A := by
  unfold table_Root_A table_Root_G
  refine tTake_spec h hi hlv hF (fun c => bsel_t rfl (hq c)) (fun c d A' hA => bsel_t rfl (hm c d A' hA)) fun c d f A1 hf hn hA => bsel_f rfl ?_
  exact put_head hA (hF f hf) ⟨by omega, by omega⟩ hkn fun A2 hA2 => hk c d f A2 hf hn hA2
end Go.Dn
/- Frames that are given back. -/
namespace Go.Dn

variable {A : AH} {l R : List SP} {r b t i : Nat} {fr n : Int} {hs : List (Int × Int)} {W : Int → Int → Int} {F G : Int → Prop} {ns : List Nd} {nd : Nd} {root : Int} {tab : Tab} {lf : Int → Option Lf}
/-- Frames that are given back, one by one. -/
theorem give_loop {tk : List Int} {s : Sl} {W' : Int → Int → Int} {K : AP} (h : Own (taken r fr hs W' b F G n t ns i nd tk ++ SlO s 1 (intsV tk) :: R) A) (hi : ns[i]? = some nd) (hlv : nd.live = true) (hu : 0 ≤ nd.use) (hFG : ∀ x, F x → ¬G x)
    (hF : ∀ x ∈ tk, F x) (hnd : tk.Nodup) (hl : tk.length < 9223372036854775807) (hk : ∀ A', Own (RamW r fr hs W' :: Bud b F G n :: TreeS t ns :: R) A' → K A') :
    ∃ I17 : Int → Nat → AH → Prop, (∃ m18, I17 (0 : Int) m18 A) ∧ ∀ x21 : Int, ∀ m18 h20, I17 x21 m18 h20 →
      (bsel (decide (x21 < (Int.ofNat s.len))) (onSome s.a fun a22 => (inB x21 s.len (aI .i64 (Addr.add a22 (Int.toNat x21 * 1)) h20 fun n23 =>
        (table_Purse_Give_A (some ⟨r, 0, none⟩) (some ⟨b, 0, none⟩) (some ⟨t, 0, none⟩) i n23 (fun h24 => (∃ m19, m19 < m18 ∧ I17 (IntKind.wrap .i64 (x21 + (1 : Int))) m19 h24)) h20)))) (K h20)) := by
  have hsl : s.len = tk.length := by
    have := rd_len (i := 3) (P := SlO s 1 (intsV tk)) h rfl reads_slo
    simpa [intsV] using this
  refine ⟨fun x m h' => ∃ c : Nat, x = c ∧ c ≤ tk.length ∧ tk.length - c = m ∧ Own (taken r fr hs W' b F G n t ns i nd (tk.drop c) ++ SlO s 1 (intsV tk) :: R) h', ⟨_, 0, rfl, by omega, rfl, h⟩, ?_⟩
  intro x m A5 ⟨c, e1, e2, e3, hA5⟩
  subst e1 e3
  refine bsel_in (fun d => ?_) fun d => ?_
  · have d : c < tk.length := by simp [hsl] at d; omega
    obtain ⟨f, hf⟩ : ∃ f, tk[c]? = some f := ⟨tk[c], by simp [d]⟩
    have hd : tk.drop c = f :: tk.drop (c + 1) := by
      rw [List.drop_eq_getElem_cons d]
      have := (List.getElem?_eq_some_iff.1 hf).2
      rw [this]
    rw [hd] at hA5
    obtain ⟨bb, o, q1, q2⟩ := rd_cell (i := 3) (P := SlO s 1 (intsV tk)) hA5 rfl reads_slo (j := c) (v := .int .i64 f) (by simp only [intsV, List.getElem?_map, hf]; rfl)
    rw [q1]
    refine inB_in (by omega) (by omega) ⟨f, by rw [add_at]; simpa using q2, ?_⟩
    have hfm : f ∈ tk := List.mem_of_getElem? hf
    refine tGive_spec hA5 hi hlv hu (hF f hfm) (by rw [← hd]; exact hnd.sublist (List.drop_sublist _ _)) (hFG f (hF f hfm)) fun A6 hA6 => ?_
    exact ⟨tk.length - (c + 1), by omega, c + 1, by rw [w64] <;> omega, by omega, rfl, hA6⟩
  · have d : c = tk.length := by simp [hsl] at d; omega
    rw [d, List.drop_length] at hA5
    refine hk A5 ?_
    have := taken_back hi hA5
    exact this.sub (List.Sublist.cons_cons _ (List.Sublist.cons_cons _ (List.Sublist.cons_cons _ (List.sublist_cons_self _ _))))
end Go.Dn
/- A page more. -/
namespace Go.Dn

variable {A : AH} {l R : List SP} {r b t i : Nat} {fr n : Int} {hs : List (Int × Int)} {W : Int → Int → Int} {F G : Int → Prop} {ns : List Nd} {nd : Nd} {root : Int} {tab : Tab} {lf : Int → Option Lf}
/-- What has come of the tables on a page's way. -/
structure Way (W : Int → Int → Int) (root : Int) (tab : Tab) (lf : Int → Option Lf) (p : Int) (tk : List Int) (W2 : Int → Int → Int) (tab1 : Tab) (lst : List Int) : Prop where
  ok : TabW W2 root tab1 lf
  down : DownOK tab1 p lst
  old : ∀ k q f, tab k q = some f → tab1 k q = some f
  new : ∀ k q f, tab1 k q = some f → tab k q = some f ∨ (f ∈ tk ∧ q = preP p k ∧ 1 ≤ k ∧ k ≤ 3)
  other : ∀ f, f ∉ tk → (∀ k q, tab k q ≠ some f) → W2 f = W f
/-- One link more. -/
theorem Way.step {p : Int} {tk lst : List Int} {W2 : Int → Int → Int} {tab1 : Tab} (h : Way W root tab lf p tk W2 tab1 lst) (hp : 0 ≤ p ∧ p < 34359738368) (hl : lst.length < 4) {f g : Int} (hf : lst[lst.length - 1]? = some f) (hg : g ∈ tk)
    (hno : ∀ k q, tab1 k q ≠ some g) (hz : ∀ j, 0 ≤ j → j < 512 → W2 g j = 0) (hr : 0 ≤ g ∧ g < 1048576) :
    Way W root tab lf p tk (setW W2 f (atP p (lst.length - 1)) (entW g)) (setT tab1 lst.length (preP p lst.length) (some g)) (lst ++ [g]) := by
  obtain ⟨k, hk⟩ : ∃ k, lst.length = k + 1 := ⟨lst.length - 1, by have := h.down.pos; omega⟩
  rw [hk] at hf
  simp only [Nat.add_sub_cancel] at hf
  obtain ⟨e1, e2, e3, e4, e5⟩ := preP_succ hp (k := k) (by omega)
  have hft := h.down.is k (by omega)
  rw [hf] at hft
  have hn := h.down.no hl
  rw [hk, e1] at hn
  have hlink := h.ok.link (k := k) (by omega) hft e5 ⟨e2, e3⟩ e4 hn hno hz hr
  rw [hk, Nat.add_sub_cancel, e1]
  have old : ∀ k' q' f', tab1 k' q' = some f' → setT tab1 (k + 1) (preP p k * 512 + atP p k) (some g) k' q' = some f' := by
    intro k' q' f' h1
    unfold setT
    split
    · rename_i e
      rw [e.1, e.2, hn] at h1
      cases h1
    · exact h1
  refine ⟨hlink, ⟨by simp, by simp; omega, fun c hc => ?_, fun hc => ?_⟩, fun k' q' f' h1 => old _ _ _ (h.old _ _ _ h1), fun k' q' f' h1 => ?_, fun f' h1 h2 => ?_⟩
  · by_cases e : c = k + 1
    · subst e
      rw [List.getElem?_append_right (by omega), hk, e1]
      unfold setT
      rw [if_pos ⟨rfl, rfl⟩]
      simp
    · have : c < k + 1 := by simp [hk] at hc; omega
      rw [List.getElem?_append_left (by omega)]
      unfold setT
      rw [if_neg (fun z => e z.1)]
      exact h.down.is c (by omega)
  · have e6 : (lst ++ [g]).length = k + 2 := by simp [hk]
    rw [e6]
    rw [e6] at hc
    unfold setT
    rw [if_neg (fun z => by omega)]
    cases e : tab1 (k + 2) (preP p (k + 2)) with
    | none => rfl
    | some z =>
      obtain ⟨g', g1, _⟩ := h.ok.up _ _ _ e
      have e7 : preP p (k + 2) / 512 = preP p k * 512 + atP p k := by
        obtain ⟨u1, u2, u3, _, _⟩ := preP_succ hp (k := k + 1) (by omega)
        rw [u1, ← e1]; omega
      rw [e7, hn] at g1
      cases g1
  · unfold setT at h1
    split at h1
    · rename_i e
      cases h1
      exact .inr ⟨hg, by rw [e.1, e1]; exact e.2, by omega, by omega⟩
    · exact h.new _ _ _ h1
  · have hne : f' ≠ f := fun e => by
      rw [e] at h1 h2
      rcases h.new _ _ _ hft with h3 | h3
      · exact h2 _ _ h3
      · exact h1 h3.1
    rw [setW_ne hne]
    exact h.other f' h1 h2
end Go.Dn
/- A page more: the call. -/
namespace Go.Dn

variable {A : AH} {l R : List SP} {r b t i : Nat} {fr n : Int} {hs : List (Int × Int)} {W : Int → Int → Int} {F G : Int → Prop} {ns : List Nd} {nd : Nd} {root : Int} {tab : Tab} {lf : Int → Option Lf}
set_option maxRecDepth 100000 in
set_option maxHeartbeats 2000000 in
theorem Map_spec {p fm : Int} {pw pu px : Bool} {Q : Int → AH → Prop} (h : Own (RamW r fr hs W :: Bud b F G n :: TreeS t ns :: R) A) (hi : ns[i]? = some nd) (hlv : nd.live = true) (hF : ∀ x, F x → hasF fr hs x = true) (hG : ∀ x, G x → hasF fr hs x = true)
    (hT : TabW W root tab lf) (hTG : ∀ k q f, tab k q = some f → G f)
    (h1 : p < 0 ∨ p ≥ 34359738368 ∨ fm < 0 ∨ fm ≥ 1048576 → Q 1 A)
    (h6 : 0 ≤ p → p < 34359738368 → 0 ≤ fm → fm < 1048576 → lf p ≠ none → ∀ A', Own (RamW r fr hs W :: Bud b F G n :: TreeS t ns :: R) A' → Q 6 A')
    (hbad : 0 ≤ p → p < 34359738368 → 0 ≤ fm → fm < 1048576 → lf p = none → ∀ lst e W' A', DownOK tab p lst → (e = 8 ∧ nd.quo - nd.use - nd.lent < 4 - lst.length ∧ nd.quo - nd.use - nd.lent ≤ n ∨ e = 7 ∧ n < 4 - lst.length ∧ n < nd.quo - nd.use - nd.lent) →
      (∀ f, ¬F f → W' f = W f) → Own (RamW r fr hs W' :: Bud b F G n :: TreeS t ns :: R) A' → Q e A')
    (hk : 0 ≤ p → p < 34359738368 → 0 ≤ fm → fm < 1048576 → lf p = none → ∀ lst tk W' tab' A', DownOK tab p lst → lst.length + tk.length = 4 → (tk.length : Int) ≤ nd.quo - nd.use - nd.lent → (tk.length : Int) ≤ n → tk.Nodup → (∀ x ∈ tk, F x) →
      TabW W' root tab' (setL lf p (some ⟨fm, pw, pu, px⟩)) → (∀ k q f, tab k q = some f → tab' k q = some f) → (∀ k q f, tab' k q = some f → tab k q = some f ∨ (f ∈ tk ∧ q = preP p k ∧ 1 ≤ k ∧ k ≤ 3)) →
      (∀ f, f ∉ tk → (∀ k q, tab k q ≠ some f) → W' f = W f) → Own (taken r fr hs W' b F G n t ns i nd tk ++ R) A' → Q 0 A') :
    table_Map_A (some ⟨r, 0, none⟩) (some ⟨b, 0, none⟩) (some ⟨t, 0, none⟩) i root p fm pw pu px Q A := by
  obtain ⟨mb0, g0, st0, gl0, hB0, hG0, _, _⟩ := Bud.openH h.swap
  have hn0 := hB0.nonneg
  have hFG : ∀ x, F x → ¬G x := fun x hx hg => (hG0.apart x hg).1 hx
  have hnd : nd.OK := by
    obtain ⟨_, _, _, ⟨_, h2⟩, _⟩ := TreeS.openH h.rot3
    exact h2 nd (List.mem_of_getElem? hi)
  have hhas : ∀ k q f, tab k q = some f → hasF fr hs f = true := fun k q f hf => hG f (hTG k q f hf)
  unfold table_Map_A table_Map_G
  refine ⟨fun h' => h' = A ∧ 0 ≤ p ∧ p < 34359738368 ∧ 0 ≤ fm ∧ fm < 1048576, ?_, bsel_in (fun c => h1 (.inl (by simpa using c))) fun c => bsel_in (fun d => h1 (.inr (.inl (by simpa using d)))) fun d => bsel_in (fun c2 => h1 (.inr (.inr (.inl (by simpa using c2))))) fun c2 => bsel_in (fun d2 => h1 (.inr (.inr (.inr (by simpa using d2))))) fun d2 => ⟨rfl, by simpa using c, by simpa using d, by simpa using c2, by simpa using d2⟩⟩
  intro A0 ⟨e0, p0, p1, f0, f1⟩
  subst e0
  refine path_spec h ⟨p0, p1⟩ fun A1 hA1 => ?_
  refine down_spec hA1 hT hhas ⟨p0, p1⟩ fun lst s A2 hD hl hsa hA2 => ?_
  refine new_C (cs := [.int .i64 0, .int .i64 0, .int .i64 0, .int .i64 0]) hA2 fun b10 A3 hA3 => ?_
  simp only [add_at]
  refine st_C (i := 0) hA3 rfl rfl rfl fun A4 hA4 => st_C (i := 0) hA4 rfl rfl rfl fun A5 hA5 => st_C (i := 0) hA5 rfl rfl rfl fun A6 hA6 => st_C (i := 0) hA6 rfl rfl rfl fun A7 hA7 => ?_
  have hA7 : Own (At b10 (atCells p) :: RamW r fr hs W :: SlO s 1 (intsV lst) :: Bud b F G n :: TreeS t ns :: R) A7 := hA7
  have hA7 : Own (RamW r fr hs W :: Bud b F G n :: TreeS t ns :: SlO s 1 (intsV lst) :: At b10 (atCells p) :: R) A7 := (((hA7.pick 2 rfl).pick 4 rfl).pick 4 rfl).pick 4 rfl
  have hle := hD.le
  have hj : 0 ≤ atP p 3 ∧ atP p 3 < 512 := by simp only [atP]; omega
  refine ⟨fun h' => lf p = none ∧ Own (taken r fr hs W b F G n t ns i nd [] ++ SlO s 1 (intsV lst) :: At b10 (atCells p) :: R) h', ?_, ?_⟩
  rotate_left
  · refine bsel_in (fun c => ?_) fun c => ?_
    · have c : lst.length = 4 := by simp [hl] at c; omega
      obtain ⟨f, hf, ht⟩ := hD.four c
      obtain ⟨bb, o, q1, q2⟩ := rd_cell (i := 3) (P := SlO s 1 (intsV lst)) hA7 rfl reads_slo (j := 3) (v := .int .i64 f) (by simp only [intsV, List.getElem?_map, hf]; rfl)
      rw [q1]
      refine inB_in (by omega) (by simp [hl, c]) ⟨f, by rw [add_at]; exact q2, ?_⟩
      refine ld_I (i := 4) hA7 rfl (atCells_at (c := 3) (by omega)) ?_
      refine get_head hA7 (hhas _ _ _ ht) hj fun A8 hA8 => ?_
      have hw := hT.leaves _ f ht (atP p 3) hj.1 hj.2
      rw [show p / 512 * 512 + atP p 3 = p by simp only [atP]; omega] at hw
      cases hx : lf p with
      | none =>
        rw [hx] at hw
        rw [hw]
        exact bsel_f rfl ⟨rfl, taken_nil hi hA8⟩
      | some x =>
        rw [hx] at hw
        have hw : W f (atP p 3) = leafW x := hw
        rw [hw, (leaf_bits (hT.rangeL _ _ hx)).1]
        exact bsel_t rfl (h6 p0 p1 f0 f1 (by rw [hx]; simp) A8 (hA8.sub (List.Sublist.cons_cons _ (List.Sublist.cons_cons _ (List.Sublist.cons_cons _ ((List.sublist_cons_self _ _).trans (List.sublist_cons_self _ _)))))))
    · have c : lst.length < 4 := by simp [hl] at c; omega
      refine ⟨?_, taken_nil hi hA7⟩
      cases hx : lf p with
      | none => rfl
      | some x => exact absurd (hD.no c) (hT.chain ⟨p0, p1⟩ hx _ c)
  intro A8 ⟨hno, hA8⟩
  have hroom : 0 ≤ nd.quo - nd.use - nd.lent := by have := hnd.room; omega
  have hA8 : Own (taken r fr hs W b F G n t ns i nd [] ++ SlO Sl.nil 1 (intsV []) :: SlO s 1 (intsV lst) :: At b10 (atCells p) :: R) A8 := (Own.nilO (sz := 1) hA8).unrot4
  have hpos := hD.pos
  refine ⟨fun s35 x m h' => ∃ (tk : List Int) (W1 : Int → Int → Int), x = tk.length ∧ lst.length + tk.length ≤ 4 ∧ 4 - lst.length - tk.length = m ∧ s35.len = tk.length ∧ (s35.a = none → tk = []) ∧ tk.Nodup ∧ (∀ x ∈ tk, F x) ∧ (∀ f, f ∉ tk → W1 f = W f) ∧ (∀ f ∈ tk, ∀ j, W1 f j = 0) ∧
    (tk.length : Int) ≤ nd.quo - nd.use - nd.lent ∧ (tk.length : Int) ≤ n ∧ Own (taken r fr hs W1 b F G n t ns i nd tk ++ SlO s35 1 (intsV tk) :: SlO s 1 (intsV lst) :: At b10 (atCells p) :: R) h',
    ⟨_, [], W, rfl, by simp; omega, rfl, rfl, fun _ => rfl, List.nodup_nil, fun x hx => by simp at hx, fun _ _ => rfl, fun f hf => by simp at hf, by simp; omega, by simp; omega, hA8⟩, ?_⟩
  intro s35 x m A9 ⟨tk, W1, i1, i2, i3, i4, i5, i6, i7, i8, i9, i10, i11, hA9⟩
  subst i1 i3
  rw [w64 (n := (4 : Int) - Int.ofNat s.len) (by simp [hl]; omega) (by simp [hl]; omega)]
  apply bsel_in
  · intro d
    have d : lst.length + tk.length < 4 := by simp [hl] at d; omega
    refine tTake_spec hA9 hi hlv hF (fun c2 => bsel_t rfl ?_) (fun c2 d2 A10 hA10 => bsel_t rfl ?_) fun c2 d2 f A10 hf hfn hA10 => bsel_f rfl ?_
    · exact give_loop hA9 hi hlv hnd.use hFG i7 i6 (by omega) fun A' hA => hbad p0 p1 f0 f1 hno lst 8 W1 A' hD (.inl ⟨rfl, by omega, by omega⟩) (fun f hf => i8 f fun hm => hf (i7 f hm)) (hA.sub (List.Sublist.cons_cons _ (List.Sublist.cons_cons _ (List.Sublist.cons_cons _ ((List.sublist_cons_self _ _).trans (List.sublist_cons_self _ _))))))
    · exact give_loop hA10 hi hlv hnd.use hFG i7 i6 (by omega) fun A' hA => hbad p0 p1 f0 f1 hno lst 7 W1 A' hD (.inr ⟨rfl, by omega, by omega⟩) (fun f hf => i8 f fun hm => hf (i7 f hm)) (hA.sub (List.Sublist.cons_cons _ (List.Sublist.cons_cons _ (List.Sublist.cons_cons _ ((List.sublist_cons_self _ _).trans (List.sublist_cons_self _ _))))))
    refine new_C (cs := intsV [f]) hA10 fun b48 A11 hA11 => ?_
    have hA11 : Own (SlAt ⟨some ⟨b48, 0, none⟩, 1, 1⟩ 1 (intsV [f]) :: (taken r fr hs (zeroW W1 f) b F G n t ns i nd (tk ++ [f]) ++ SlO s35 1 (intsV tk) :: SlO s 1 (intsV lst) :: At b10 (atCells p) :: R)) A11 := hA11.imp fun B hB => (at_slo (k := 1) (sz := 1) rfl hB).look
    have hA11 : Own (SlO s35 1 (intsV tk) :: SlAt ⟨some ⟨b48, 0, none⟩, 1, 1⟩ 1 (intsV [f]) :: (taken r fr hs (zeroW W1 f) b F G n t ns i nd (tk ++ [f]) ++ SlO s 1 (intsV lst) :: At b10 (atCells p) :: R)) A11 := hA11.pick 4 rfl
    refine ap_head (i := 0) hA11 rfl (fun q => by cases q) (fun q => by rw [i5 q]; rfl) rfl (fun v hv => ?_) ⟨by simp only [i4]; omega, by simp only [i4]; omega⟩ fun s' A12 j1 j2 hA12 => ?_
    · simp [intsV] at hv; subst hv; rfl
    rw [← intsV_app] at hA12
    have hlf : (tk ++ [f]).length = tk.length + 1 := by simp
    refine ⟨4 - lst.length - (tk.length + 1), by omega, tk ++ [f], zeroW W1 f, by rw [hlf, w64 (by omega) (by omega)]; omega, by omega, by omega, by rw [hlf]; simp only [j1, i4], fun q => by have := j2 q; simp [intsV] at this, ?_, fun x hx => ?_, fun g hg => ?_, fun g hg j => ?_, by omega, by omega, ?_⟩
    · exact List.nodup_append.2 ⟨i6, by simp, fun x hx y hy => by simp at hy; subst hy; exact fun e => hfn (e ▸ hx)⟩
    · rcases List.mem_append.1 hx with hx | hx
      · exact i7 x hx
      · simp at hx; subst hx; exact hf
    · simp only [List.mem_append, List.mem_singleton, not_or] at hg
      rw [zeroW_ne hg.2]; exact i8 g hg.1
    · unfold zeroW
      split
      · rfl
      · rename_i e
        rcases List.mem_append.1 hg with hg | hg
        · exact i9 g hg j
        · simp at hg; exact absurd hg e
    · exact Own.unrot4 (hA12.sub (List.Sublist.cons_cons _ (List.sublist_cons_self _ _)))
  intro d
  have d : lst.length + tk.length = 4 := by simp [hl] at d; omega
  have hft : ∀ k q f, tab k q = some f → f ∉ tk := fun k q f hf hm => hFG f (i7 f hm) (hTG k q f hf)
  refine ⟨fun s56 x m h' => ∃ (c : Nat) (lst2 : List Int) (W2 : Int → Int → Int) (tab1 : Tab), x = c ∧ c ≤ tk.length ∧ tk.length - c = m ∧ lst2.length = lst.length + c ∧ Way W root tab lf p tk W2 tab1 lst2 ∧ s56.len = lst2.length ∧ s56.a ≠ none ∧
    (∀ f ∈ tk.drop c, (∀ k q, tab1 k q ≠ some f) ∧ ∀ j, W2 f j = 0) ∧ Own (taken r fr hs W2 b F G n t ns i nd tk ++ SlO s56 1 (intsV lst2) :: SlO s35 1 (intsV tk) :: At b10 (atCells p) :: R) h',
    ⟨_, 0, lst, W1, tab, rfl, by omega, rfl, rfl, ⟨hT.congr fun k q f hf => i8 f (hft k q f hf), hD, fun _ _ _ h => h, fun _ _ _ h => .inl h, fun f hf _ => i8 f hf⟩, hl, hsa, fun f hf => ⟨fun k q e => hft k q f e hf, i9 f hf⟩,
      hA9.cons fun C hC => hC.cons fun C hC => hC.cons fun C hC => hC.swap⟩, ?_⟩
  intro s56 x m A10 ⟨c, lst2, W2, tab1, k1, k2, k3, k4, hWay, k5, k6, k7, hA10⟩
  subst k1 k3
  have hhas1 : ∀ k q f, tab1 k q = some f → hasF fr hs f = true := fun k q f hf => by
    rcases hWay.new k q f hf with h | h
    · exact hhas k q f h
    · exact hF f (i7 f h.1)
  apply bsel_in
  · intro d2
    have d2 : c < tk.length := by simp [i4] at d2; omega
    obtain ⟨g, hg⟩ : ∃ g, tk[c]? = some g := ⟨tk[c], by simp [d2]⟩
    have hgm : g ∈ tk := List.mem_of_getElem? hg
    have hdr : tk.drop c = g :: tk.drop (c + 1) := by
      rw [List.drop_eq_getElem_cons d2]
      have := (List.getElem?_eq_some_iff.1 hg).2
      rw [this]
    have hll : lst2.length < 4 := by omega
    obtain ⟨f, hf⟩ : ∃ f, lst2[lst2.length - 1]? = some f := ⟨lst2[lst2.length - 1], by simp⟩
    have hft2 := hWay.down.is (lst2.length - 1) (by omega)
    rw [hf] at hft2
    have hwr : IntKind.wrap .i64 (Int.ofNat s56.len - 1) = ((lst2.length - 1 : Nat) : Int) := by rw [k5, w64] <;> simp <;> omega
    obtain ⟨bb, o, q1, q2⟩ := rd_cell (i := 4) (P := SlO s35 1 (intsV tk)) hA10 rfl reads_slo (j := c) (v := .int .i64 g) (by simp only [intsV, List.getElem?_map, hg]; rfl)
    obtain ⟨bc, o2, q3, q4⟩ := rd_cell (i := 3) (P := SlO s56 1 (intsV lst2)) hA10 rfl reads_slo (j := lst2.length - 1) (v := .int .i64 f) (by simp only [intsV, List.getElem?_map, hf]; rfl)
    rw [hwr, q1, q3]
    obtain ⟨g0', gz⟩ := k7 g (by rw [hdr]; exact List.mem_cons_self)
    have hgr := hB0.free (i7 g hgm)
    obtain ⟨_, e2, e3, _, _⟩ := preP_succ ⟨p0, p1⟩ (k := lst2.length - 1) (by omega)
    refine inB_in (by omega) (by omega) ⟨g, by rw [add_at]; simpa using q2, ?_⟩
    refine inB_in (by omega) (by omega) ⟨f, by rw [add_at]; simpa using q4, ?_⟩
    refine inB_in (by omega) (by omega) ?_
    refine ld_I (i := 5) hA10 rfl (by rw [show 0 + Int.toNat ((lst2.length - 1 : Nat) : Int) * 1 = lst2.length - 1 by omega]; exact atCells_at (by omega)) ?_
    refine put_head hA10 (hhas1 _ _ _ hft2) ⟨e2, e3⟩ hgr fun A11 hA11 => ?_
    have hstep := hWay.step ⟨p0, p1⟩ hll hf hgm g0' (fun j _ _ => gz j) hgr
    refine new_C (cs := intsV [g]) hA11 fun b64 A12 hA12 => ?_
    have hA12 : Own (SlAt ⟨some ⟨b64, 0, none⟩, 1, 1⟩ 1 (intsV [g]) :: (taken r fr hs (setW W2 f (atP p (lst2.length - 1)) (entW g)) b F G n t ns i nd tk ++ SlO s56 1 (intsV lst2) :: SlO s35 1 (intsV tk) :: At b10 (atCells p) :: R)) A12 := hA12.imp fun B hB => (at_slo (k := 1) (sz := 1) rfl hB).look
    have hA12 : Own (SlO s56 1 (intsV lst2) :: SlAt ⟨some ⟨b64, 0, none⟩, 1, 1⟩ 1 (intsV [g]) :: (taken r fr hs (setW W2 f (atP p (lst2.length - 1)) (entW g)) b F G n t ns i nd tk ++ SlO s35 1 (intsV tk) :: At b10 (atCells p) :: R)) A12 := hA12.pick 4 rfl
    refine ap_head (i := 0) hA12 rfl (fun q => by cases q) (fun q => absurd q k6) rfl (fun v hv => ?_) ⟨by simp only [k5]; omega, by simp only [k5]; omega⟩ fun s' A13 j1 j2 hA13 => ?_
    · simp [intsV] at hv; subst hv; rfl
    rw [← intsV_app] at hA13
    have hlf : (lst2 ++ [g]).length = lst2.length + 1 := by simp
    refine ⟨tk.length - (c + 1), by omega, c + 1, lst2 ++ [g], _, _, by rw [w64] <;> omega, by omega, rfl, by omega, hstep, by rw [hlf]; simp only [j1, k5], fun q => by have := j2 q; simp [intsV] at this, fun f' hf' => ?_, Own.unrot4 (hA13.sub (List.Sublist.cons_cons _ (List.sublist_cons_self _ _)))⟩
    have hne : f' ≠ g := fun e => by
      have := i6.sublist (List.drop_sublist c tk)
      rw [hdr] at this
      exact (List.nodup_cons.1 this).1 (e ▸ hf')
    obtain ⟨m1, m2⟩ := k7 f' (by rw [hdr]; exact List.mem_cons_of_mem _ hf')
    refine ⟨fun k q e => ?_, fun j => ?_⟩
    · unfold setT at e
      split at e
      · cases e; exact hne rfl
      · exact m1 k q e
    · have hnf : f' ≠ f := fun e => m1 _ _ (e ▸ hft2)
      rw [setW_ne hnf]; exact m2 j
  intro d2
  have d2 : c = tk.length := by simp [i4] at d2; omega
  obtain ⟨f, hf, ht⟩ := hWay.down.four (by omega)
  obtain ⟨a, ha⟩ : ∃ a, s56.a = some a := by
    cases e : s56.a with
    | none => exact absurd e k6
    | some a => exact ⟨a, rfl⟩
  have ld3 : ∀ B, Own (taken r fr hs W2 b F G n t ns i nd tk ++ SlO s56 1 (intsV lst2) :: SlO s35 1 (intsV tk) :: At b10 (atCells p) :: R) B → ∀ K : Int → Prop, K f → aI .i64 (Addr.add a 3) B K := by
    intro B hB K hK
    obtain ⟨bb, o, q1, q2⟩ := rd_cell (i := 3) (P := SlO s56 1 (intsV lst2)) hB rfl reads_slo (j := 3) (v := .int .i64 f) (by simp only [intsV, List.getElem?_map, hf]; rfl)
    rw [q1] at ha
    cases ha
    exact ⟨f, by rw [add_at]; exact q2, hK⟩
  rw [ha]
  refine inB_in (by omega) (by omega) (ld3 _ hA10 _ ?_)
  refine ld_I (i := 5) hA10 rfl (atCells_at (c := 3) (by omega)) ?_
  unfold table_leaf_A
  refine ⟨ld_I (i := 5) hA10 rfl (atCells_at (c := 3) (by omega)) rfl, ld3 _ hA10 _ rfl, put_head hA10 (hhas1 _ _ _ ht) hj ⟨f0, f1⟩ fun A11 hA11 => ?_⟩
  have hleaf := hWay.ok.leaf (o := some ⟨fm, pw, pu, px⟩) ht p0 (fun l hl => by cases hl; exact ⟨f0, f1⟩)
  refine hk p0 p1 f0 f1 hno lst tk _ tab1 A11 hD d i10 i11 i6 i7 hleaf hWay.old hWay.new (fun g hg1 hg2 => ?_) (hA11.sub (List.Sublist.cons_cons _ (List.Sublist.cons_cons _ (List.Sublist.cons_cons _ ((List.sublist_cons_self _ _).trans ((List.sublist_cons_self _ _).trans (List.sublist_cons_self _ _)))))))
  have hne : g ≠ f := fun e => by
    rw [e] at hg1 hg2
    rcases hWay.new _ _ _ ht with h3 | h3
    · exact hg2 _ _ h3
    · exact hg1 h3.1
  rw [setW_ne hne]
  exact hWay.other g hg1 hg2
end Go.Dn
