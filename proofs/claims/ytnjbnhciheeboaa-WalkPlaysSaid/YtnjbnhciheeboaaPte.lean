/- Entries and addresses: what the program's functions and the document's answer. -/
import Derived.Test.YtnjbnhciheeboaaRam
namespace Go.Dn

def U64 (x : Int) : Prop := 0 ≤ x ∧ x < 18446744073709551616
def partZ (x : Int) (k : Nat) : Int := x / 2 ^ k % 512
def frameZ (x : Int) : Int := x / 4096 % 1048576
def canonZ (x : Int) : Bool := (x / 2 ^ 47 == 0) || (x / 2 ^ 47 == 131071)
def resvd (x : Int) (level : Int) : Bool := bitZ x 0 && ((x / 2 ^ 32 % 1048576 != 0) || if level ≥ 3 then bitZ x 7 else (level == 2 && bitZ x 7 && (x / 2 ^ 12 % 512 != 0)))

variable {A : AH} {l : List SP}
theorem Canonical_spec {x : Int} {Q : Bool → AH → Prop} (hk : Q (canonZ x) A) : pte_Canonical_A x Q A := by
  unfold pte_Canonical_A
  rw [shr_eq]
  unfold canonZ at hk
  refine bsel_in (fun c => ?_) fun c => ?_
  · rw [c] at hk; exact hk
  · rw [c] at hk; exact hk
theorem bit1 {x : Int} (k : Nat) (hx : U64 x) : (bits .and .u64 (x / 2 ^ k) 1 == (1 : Int)) = bitZ x k := by
  have := shr_bound k hx.1 hx.2
  rw [and1 this.1 this.2]
  rfl
theorem bit0 {x : Int} (hx : U64 x) : (bits .and .u64 x 1 == (0 : Int)) = !bitZ x 0 := by
  rw [and1 hx.1 hx.2]
  unfold bitZ
  rcases Int.emod_two_eq x with h | h <;> simp [h]
theorem Reserved_spec {x lv : Int} {Q : Bool → AH → Prop} (hx : U64 x) (hk : Q (resvd x lv) A) : pte_Reserved_A x lv Q A := by
  unfold pte_Reserved_A
  simp only [shr_eq]
  rw [bit0 hx, bit1 7 hx]
  have h32 := shr_bound 32 hx.1 hx.2
  have h12 := shr_bound 12 hx.1 hx.2
  rw [and20 h32.1 h32.2, and511 h12.1 h12.2]
  unfold resvd at hk
  generalize (x / 2 ^ 32 % 1048576 != 0) = u at *
  generalize (x / 2 ^ 12 % 512 != 0) = v at *
  refine bsel_in (fun c => ?_) fun c => ?_
  · simp at c; simpa [c] using hk
  simp at c
  refine bsel_in (fun c2 => ?_) fun c2 => ?_
  · simpa [c, c2] using hk
  refine bsel_in (fun c3 => ?_) fun c3 => ?_
  · simp at c3; simpa [c, c2, c3] using hk
  simp at c3
  have c3' : ¬ (3 ≤ lv) := by omega
  refine bsel_in (fun c4 => ?_) fun c4 => ?_
  · refine bsel_in (fun c5 => ?_) fun c5 => ?_
    · simpa [c, c2, c3', c4, c5] using hk
    · simpa [c, c2, c3', c4, c5] using hk
  · simpa [c, c2, c3', c4] using hk
def splitCells (x : Int) (j : Nat) : List Value := (List.range 4).map fun i => .int .i64 (if i < j then partZ x (39 - 9 * i) else 0)
theorem Split_spec {x : Int} {Q : Int → Int → Int → Int → Int → AH → Prop} (hx : U64 x) (h : Own l A) (hk : ∀ A', Own l A' → Q (partZ x 39) (partZ x 30) (partZ x 21) (partZ x 12) (x % 4096) A') : pte_Split_A x Q A := by
  unfold pte_Split_A
  refine new_C (cs := splitCells x 0) h fun b A1 h1 => ?_
  refine ⟨fun i m h' => ∃ j : Nat, i = j ∧ j ≤ 4 ∧ m = 4 - j ∧ Own (At b (splitCells x j) :: l) h', ⟨4, 0, rfl, by omega, rfl, h1⟩, ?_⟩
  intro i m h' ⟨j, e1, e2, e3, ho⟩
  subst e1 e3
  refine bsel_in (fun c => ?_) fun c => ?_
  · have c : j < 4 := by simp at c; omega
    have h9 : IntKind.wrap .i64 (39 - IntKind.wrap .i64 (9 * (j : Int))) = ((39 - 9 * j : Nat) : Int) := by
      rw [w64 (n := 9 * (j : Int)) (by omega) (by omega), w64 (by omega) (by omega)]; omega
    rw [h9]
    refine bsel_f (by simp) ?_
    refine inB_in (by omega) (by omega) ?_
    rw [add_at]
    have hb := shr_bound (39 - 9 * j) hx.1 hx.2
    have hv : IntKind.wrap .i64 (bits .and .u64 (Int.fdiv x (2 ^ (min (Int.toNat ((39 - 9 * j : Nat) : Int)) 64))) 511) = partZ x (39 - 9 * j) := by
      rw [shr_eq, show min (Int.toNat ((39 - 9 * j : Nat) : Int)) 64 = 39 - 9 * j by omega, and511 hb.1 hb.2]
      exact w64 (by omega) (by omega)
    rw [hv]
    refine st_C (i := 0) ho rfl ?_ rfl fun A2 h2 => ?_
    · simp [splitCells]; omega
    refine ⟨4 - (j + 1), by omega, j + 1, by rw [w64] <;> omega, by omega, rfl, ?_⟩
    have hs : (splitCells x j).set (0 + Int.toNat (j : Int) * 1) (.int .i64 (partZ x (39 - 9 * j))) = splitCells x (j + 1) := by
      obtain rfl | rfl | rfl | rfl : j = 0 ∨ j = 1 ∨ j = 2 ∨ j = 3 := by omega
      all_goals rfl
    rw [hs] at h2
    exact h2
  · have : j = 4 := by simp at c; omega
    subst this
    rw [and4095 hx.1 hx.2, w64 (n := x % 4096) (by omega) (by omega)]
    simp only [add_at]
    refine ld_I (i := 0) ho rfl rfl ?_
    refine ld_I (i := 0) ho rfl rfl ?_
    refine ld_I (i := 0) ho rfl rfl ?_
    refine ld_I (i := 0) ho rfl rfl ?_
    exact hk _ ho.tail
def placeN : Nat → Nat | 0 => 0 | 1 => 1 | 2 => 2 | 3 => 5 | 4 => 6 | 5 => 7 | 6 => 8 | _ => 63
def entryCells (x : Int) (j : Nat) : List Value := ((List.range 8).map fun i => .bool (decide (i < j) && bitZ x (placeN i))) ++ [.int .i64 (frameZ x)]
theorem Unpack_spec {x : Int} {Q : Bool → Bool → Bool → Bool → Bool → Bool → Bool → Bool → Int → AH → Prop} (hx : U64 x) (h : Own l A)
    (hk : ∀ A', Own l A' → Q (bitZ x 0) (bitZ x 1) (bitZ x 2) (bitZ x 5) (bitZ x 6) (bitZ x 7) (bitZ x 8) (bitZ x 63) (frameZ x) A') : pte_Unpack_A x Q A := by
  unfold pte_Unpack_A
  refine new_C (cs := [.bool false, .bool false, .bool false, .bool false, .bool false, .bool false, .bool false, .bool false, .int .i64 0]) h fun b A1 h1 => ?_
  have hb := shr_bound 12 hx.1 hx.2
  rw [shr_eq, and20 hb.1 hb.2, w64 (n := x / 2 ^ 12 % 1048576) (by omega) (by omega)]
  simp only [add_at]
  iterate 9 refine st_C (i := 0) h1 rfl rfl rfl fun A1 h1 => ?_
  unfold pte_Entry_flags_A
  simp only [onSome, add_at]
  refine ⟨fun i m h' => ∃ j : Nat, i = j ∧ j ≤ 8 ∧ m = 8 - j ∧ Own (At b (entryCells x j) :: l) h', ⟨8, 0, rfl, by omega, rfl, h1⟩, ?_⟩
  intro i m h' ⟨j, e1, e2, e3, ho⟩
  subst e1 e3
  refine bsel_in (fun c => ?_) fun c => ?_
  · have c : j < 8 := by simp at c; omega
    refine inB_in (by omega) (by omega) ?_
    have hp : ([.pointer (some ⟨b, 0, none⟩), .pointer (some ⟨b, 0 + 1, none⟩), .pointer (some ⟨b, 0 + 2, none⟩), .pointer (some ⟨b, 0 + 3, none⟩), .pointer (some ⟨b, 0 + 4, none⟩), .pointer (some ⟨b, 0 + 5, none⟩), .pointer (some ⟨b, 0 + 6, none⟩), .pointer (some ⟨b, 0 + 7, none⟩)] : List Value)[Int.toNat (j : Int)]? = some (.pointer (some ⟨b, j, none⟩)) := by
      obtain rfl | rfl | rfl | rfl | rfl | rfl | rfl | rfl : j = 0 ∨ j = 1 ∨ j = 2 ∨ j = 3 ∨ j = 4 ∨ j = 5 ∨ j = 6 ∨ j = 7 := by omega
      all_goals rfl
    refine ⟨_, hp, ?_⟩
    unfold pte_places_A
    refine inB_in (by omega) (by omega) ?_
    have hq : ([.int .i64 0, .int .i64 1, .int .i64 2, .int .i64 5, .int .i64 6, .int .i64 7, .int .i64 8, .int .i64 63] : List Value)[Int.toNat (j : Int)]? = some (.int .i64 (placeN j)) := by
      obtain rfl | rfl | rfl | rfl | rfl | rfl | rfl | rfl : j = 0 ∨ j = 1 ∨ j = 2 ∨ j = 3 ∨ j = 4 ∨ j = 5 ∨ j = 6 ∨ j = 7 := by omega
      all_goals rfl
    refine ⟨_, hq, bsel_f (by simp) ?_⟩
    have hpl : placeN j ≤ 63 := by
      obtain rfl | rfl | rfl | rfl | rfl | rfl | rfl | rfl : j = 0 ∨ j = 1 ∨ j = 2 ∨ j = 3 ∨ j = 4 ∨ j = 5 ∨ j = 6 ∨ j = 7 := by omega
      all_goals decide
    rw [shr_eq, show min (Int.toNat (placeN j : Int)) 64 = placeN j by omega, bit1 _ hx]
    refine st_C (i := 0) ho rfl ?_ rfl fun A2 h2 => ?_
    · simp [entryCells]; omega
    refine ⟨8 - (j + 1), by omega, j + 1, by rw [w64] <;> omega, by omega, rfl, ?_⟩
    have hs : (entryCells x j).set j (.bool (bitZ x (placeN j))) = entryCells x (j + 1) := by
      obtain rfl | rfl | rfl | rfl | rfl | rfl | rfl | rfl : j = 0 ∨ j = 1 ∨ j = 2 ∨ j = 3 ∨ j = 4 ∨ j = 5 ∨ j = 6 ∨ j = 7 := by omega
      all_goals rfl
    rw [hs] at h2
    exact h2
  · have : j = 8 := by simp at c; omega
    subst this
    iterate 8 refine ld_B (i := 0) ho rfl rfl ?_
    refine ld_I (i := 0) ho rfl rfl ?_
    exact hk _ ho.tail

/- The document's. -/
theorem Bit_spec {x k : Int} (n : Nat) (hn : k = n) (hn2 : n ≤ 63) {Q : Bool → AH → Prop} (hx : U64 x) (hk : Q (bitZ x n) A) : demesneref03_Bit_A x k Q A := by
  subst hn
  unfold demesneref03_Bit_A
  refine bsel_f (by simp) ?_
  have hb := shr_bound n hx.1 hx.2
  rw [shr_eq, show min (Int.toNat (n : Int)) 64 = n by omega, Int.tmod_eq_emod_of_nonneg hb.1]
  exact hk
theorem rUnpack_spec {x : Int} {Q : Bool → Bool → Bool → Bool → Bool → Bool → Bool → Bool → Int → AH → Prop} (hx : U64 x)
    (hk : Q (bitZ x 0) (bitZ x 1) (bitZ x 2) (bitZ x 5) (bitZ x 6) (bitZ x 7) (bitZ x 8) (bitZ x 63) (frameZ x) A) : demesneref03_Unpack_A x Q A := by
  obtain ⟨h0, h1⟩ := hx
  have hx : U64 x := ⟨h0, h1⟩
  unfold demesneref03_Unpack_A
  refine Bit_spec 0 rfl (by omega) hx ?_
  refine Bit_spec 1 rfl (by omega) hx ?_
  refine Bit_spec 2 rfl (by omega) hx ?_
  refine Bit_spec 5 rfl (by omega) hx ?_
  refine Bit_spec 6 rfl (by omega) hx ?_
  refine Bit_spec 7 rfl (by omega) hx ?_
  refine Bit_spec 8 rfl (by omega) hx ?_
  refine Bit_spec 63 rfl (by omega) hx ?_
  rw [tdiv4096 h0, wu64 (n := x / 4096) (by omega) (by omega), Int.tmod_eq_emod_of_nonneg (by omega), w64 (by omega) (by omega)]
  exact hk
theorem mod_pow_succ {x : Int} (n : Nat) : x % 2 ^ (n + 1) = x % 2 ^ n + 2 ^ n * (x / 2 ^ n % 2) := by
  have hp : (0 : Int) < 2 ^ n := Int.pow_pos (by omega)
  rw [Int.pow_succ]
  have h1 := Int.mul_ediv_add_emod x (2 ^ n)
  have h2 := Int.mul_ediv_add_emod (x / 2 ^ n) 2
  have h3 := Int.emod_nonneg x (show (2 : Int) ^ n ≠ 0 by omega)
  have h4 := Int.emod_lt_of_pos x hp
  have h5 := Int.emod_two_eq (x / 2 ^ n)
  have hx : x = (2 ^ n * 2) * (x / 2 ^ n / 2) + (x % 2 ^ n + 2 ^ n * (x / 2 ^ n % 2)) := by
    rw [Int.mul_assoc, ← Int.add_assoc, Int.add_right_comm, ← Int.mul_add, h2, h1]
  have hb : 0 ≤ x % 2 ^ n + 2 ^ n * (x / 2 ^ n % 2) ∧ x % 2 ^ n + 2 ^ n * (x / 2 ^ n % 2) < 2 ^ n * 2 := by
    rcases h5 with h5 | h5 <;> rw [h5] <;> omega
  conv => lhs; rw [hx]
  rw [Int.add_comm, Int.add_mul_emod_self_left]
  exact Int.emod_eq_of_lt hb.1 hb.2
theorem bitZ_val (x : Int) (k : Nat) : (if bitZ x k then 1 else 0 : Int) = x / 2 ^ k % 2 := by
  unfold bitZ
  rcases Int.emod_two_eq (x / 2 ^ k) with h | h <;> simp [h]
theorem Part_spec {x : Int} (k n : Nat) {Q : Int → AH → Prop} (hx : U64 x) (hn : k + n ≤ 64) (hn2 : n ≤ 32) (hk : Q (x / 2 ^ k % 2 ^ n) A) : demesneref03_Part_A x k n Q A := by
  unfold demesneref03_Part_A
  -- what was read so far: the bits from k + j on
  refine ⟨fun y i m h' => h' = A ∧ ∃ j : Nat, j ≤ n ∧ i = (j : Int) - 1 ∧ m = j ∧ y = x / 2 ^ (k + j) % 2 ^ (n - j), ⟨n, rfl, n, Nat.le_refl _, by rw [w64] <;> omega, rfl, by simp [Int.emod_one]⟩, ?_⟩
  intro y i m h' ⟨e1, j, e2, e3, e4, e5⟩
  subst e1 e3 e4 e5
  refine bsel_in (fun c => ?_) fun c => ?_
  · have c : 0 ≤ (m : Int) - 1 := by simpa using c
    obtain ⟨j, rfl⟩ : ∃ j, m = j + 1 := ⟨m - 1, by omega⟩
    refine ⟨fun y h'' => h'' = h' ∧ y = x / 2 ^ (k + j) % 2 ^ (n - j), ?_, ?_⟩
    · intro y h'' ⟨g1, g2⟩
      subst g1 g2
      exact ⟨j, by omega, rfl, j, by omega, by rw [w64] <;> omega, rfl, rfl⟩
    have hp : (2 : Int) ^ (n - (j + 1)) ≤ 2 ^ 31 := by
      have h2 : (2 : Nat) ^ (n - (j + 1)) ≤ 2 ^ 31 := Nat.pow_le_pow_right (by omega) (by omega)
      have h4 : (((2 : Nat) ^ (n - (j + 1)) : Nat) : Int) ≤ ((2 ^ 31 : Nat) : Int) := by omega
      simpa using h4
    have hq : (0 : Int) < 2 ^ (n - (j + 1)) := Int.pow_pos (by omega)
    have hb := Int.emod_nonneg (x / 2 ^ (k + (j + 1))) (show (2 : Int) ^ (n - (j + 1)) ≠ 0 by omega)
    have hb2 := Int.emod_lt_of_pos (x / 2 ^ (k + (j + 1))) hq
    have hstep : x / 2 ^ (k + j) % 2 ^ (n - j) = (x / 2 ^ (k + j)) % 2 + 2 * (x / 2 ^ (k + (j + 1)) % 2 ^ (n - (j + 1))) := by
      rw [show n - j = (n - (j + 1)) + 1 by omega, show k + (j + 1) = (k + j) + 1 by omega, Int.pow_succ, Int.pow_succ]
      rw [← Int.ediv_ediv_of_nonneg (by exact Int.pow_nonneg (by omega))]
      generalize x / 2 ^ (k + j) = z
      have h1 := Int.mul_ediv_add_emod z 2
      have h3 : z / 2 % 2 ^ (n - (j + 1)) = z / 2 - 2 ^ (n - (j + 1)) * (z / 2 / 2 ^ (n - (j + 1))) := by
        have := Int.mul_ediv_add_emod (z / 2) (2 ^ (n - (j + 1))); omega
      have h4 : z % (2 ^ (n - (j + 1)) * 2) = z - 2 ^ (n - (j + 1)) * 2 * (z / (2 ^ (n - (j + 1)) * 2)) := by
        have := Int.mul_ediv_add_emod z (2 ^ (n - (j + 1)) * 2); omega
      rw [h3, h4, Int.ediv_ediv_of_nonneg (by omega), Int.mul_comm 2 (2 ^ (n - (j + 1)) : Int)]
      generalize z / (2 ^ (n - (j + 1)) * 2) = w
      have : 2 ^ (n - (j + 1)) * 2 * w = 2 * (2 ^ (n - (j + 1)) * w) := by rw [Int.mul_comm (2 ^ (n - (j + 1)) : Int) 2, Int.mul_assoc]
      omega
    have hsm : (IntKind.wrap .i64 ((k : Int) + (((j + 1 : Nat) : Int) - 1))) = ((k + j : Nat) : Int) := by rw [w64] <;> omega
    rw [hsm]
    refine Bit_spec (k + j) rfl (by omega) hx ?_
    have hv := bitZ_val x (k + j)
    have h31 : (2 : Int) ^ 31 = 2147483648 := rfl
    refine bsel_in (fun c2 => ⟨rfl, ?_⟩) fun c2 => ⟨rfl, ?_⟩
    · rw [c2] at hv
      simp at hv
      rw [hstep, ← hv, w64 (n := 2 * _) (by omega) (by omega), w64 (by omega) (by omega)]
      omega
    · rw [c2] at hv
      simp at hv
      rw [hstep, ← hv, w64 (by omega) (by omega)]
      omega
  · have : m = 0 := by simp at c; omega
    subst this
    simpa using hk
theorem any_spec {x : Int} (a n : Nat) {b : Int} {Q : Bool → AH → Prop} (hx : U64 x) (hb : b = (a + n : Nat) - 1) (hn : a + n ≤ 64) (hk : Q (x / 2 ^ a % 2 ^ n != 0) A) : demesneref03_any_A x a b Q A := by
  subst hb
  unfold demesneref03_any_A
  refine ⟨fun i m h' => h' = A ∧ ∃ j : Nat, i = ((a + j : Nat) : Int) ∧ j ≤ n ∧ m = n - j ∧ x / 2 ^ a % 2 ^ j = 0, ⟨n, rfl, 0, rfl, by omega, by omega, by simp [Int.emod_one]⟩, ?_⟩
  intro i m h' ⟨e1, j, e2, e3, e4, e5⟩
  subst e1 e2 e4
  have hs := mod_pow_succ (x := x / 2 ^ a) j
  have hv := bitZ_val x (a + j)
  have hd : x / 2 ^ a / 2 ^ j = x / 2 ^ (a + j) := by rw [Int.pow_add, Int.ediv_ediv_of_nonneg (Int.pow_nonneg (by omega))]
  rw [hd, e5, ← hv] at hs
  refine bsel_in (fun c => ?_) fun c => ?_
  · have c : j < n := by simp at c; omega
    refine Bit_spec (a + j) rfl (by omega) hx ?_
    refine bsel_in (fun c2 => ?_) fun c2 => ?_
    · rw [c2] at hs
      have hp : (0 : Int) < 2 ^ j := Int.pow_pos (by omega)
      have : (x / 2 ^ a % 2 ^ n != 0) = true := by
        simp only [bne_iff_ne, ne_eq]
        intro q
        obtain ⟨w, hw⟩ := Int.dvd_of_emod_eq_zero q
        have h6 : x / 2 ^ a % 2 ^ (j + 1) = 0 := by
          rw [hw, show n = (j + 1) + (n - (j + 1)) by omega, Int.pow_add, Int.mul_assoc]
          exact Int.mul_emod_right _ _
        rw [h6] at hs
        simp at hs
        omega
      rw [this] at hk; exact hk
    · refine ⟨n - (j + 1), by omega, rfl, j + 1, by rw [w64] <;> omega, by omega, rfl, ?_⟩
      rw [c2] at hs
      simpa using hs
  · have : j = n := by simp at c; omega
    subst this
    rw [e5] at hk
    exact hk
theorem rReserved_spec {x lv : Int} {Q : Bool → AH → Prop} (hx : U64 x) (hk : Q (resvd x lv) A) : demesneref03_Reserved_A x lv Q A := by
  unfold demesneref03_Reserved_A
  unfold resvd at hk
  refine Bit_spec 0 rfl (by omega) hx ?_
  refine bsel_in (fun c => ?_) fun c => ?_
  · simp at c; simpa [c] using hk
  simp at c
  refine any_spec 32 20 hx rfl (by omega) ?_
  refine bsel_in (fun c2 => ?_) fun c2 => ?_
  · have c2 : (x / 2 ^ 32 % 1048576 != 0) = true := c2
    rw [c, c2] at hk
    exact hk
  have c2 : (x / 2 ^ 32 % 1048576 != 0) = false := c2
  have hv : ∀ u : Bool, u = (x / 2 ^ 12 % 512 != 0) → Q (bitZ x 0 && (false || if lv ≥ 3 then bitZ x 7 else (lv == 2 && bitZ x 7 && u))) A := fun u e => by subst e; rw [c2] at hk; exact hk
  refine bsel_in (fun c3 => ?_) fun c3 => ?_
  · simp at c3
    refine Bit_spec 7 rfl (by omega) hx ?_
    simpa [c, c3] using hv _ rfl
  simp at c3
  have c3' : ¬ (3 ≤ lv) := by omega
  refine bsel_in (fun c4 => ?_) fun c4 => ?_
  · refine Bit_spec 7 rfl (by omega) hx ?_
    refine bsel_in (fun c5 => ?_) fun c5 => ?_
    · refine any_spec 12 9 hx rfl (by omega) ?_
      have hv := hv _ rfl
      show Q (x / 2 ^ 12 % 512 != 0) A
      generalize (x / 2 ^ 12 % 512 != 0) = v at *
      simpa [c, c3', c4, c5] using hv
    · simpa [c, c3', c4, c5] using hv _ rfl
  · simpa [c, c3', c4] using hv _ rfl
theorem rCanonical_spec {x : Int} {Q : Bool → AH → Prop} (hx : U64 x) (hk : Q (canonZ x) A) : demesneref03_Canonical_A x Q A := by
  unfold demesneref03_Canonical_A
  refine ⟨fun i m h' => h' = A ∧ ∃ j : Nat, i = ((47 + j : Nat) : Int) ∧ j ≤ 17 ∧ m = 17 - j ∧ (x / 2 ^ 47 % 2 ^ j = if bitZ x 47 then 2 ^ j - 1 else 0), ⟨17, rfl, 0, rfl, by omega, by omega, by simp [Int.emod_one]⟩, ?_⟩
  intro i m h' ⟨e1, j, e2, e3, e4, e5⟩
  subst e1 e2 e4
  have hs := mod_pow_succ (x := x / 2 ^ 47) j
  have hv := bitZ_val x (47 + j)
  have hd : x / 2 ^ 47 / 2 ^ j = x / 2 ^ (47 + j) := by rw [Int.pow_add, Int.ediv_ediv_of_nonneg (Int.pow_nonneg (by omega))]
  rw [hd, e5, ← hv] at hs
  have h47 : 0 ≤ x / 2 ^ 47 ∧ x / 2 ^ 47 < 131072 := by
    have h1 := hx.1
    have h2 := hx.2
    omega
  refine bsel_in (fun c => ?_) fun c => ?_
  · have c : j < 17 := by simp at c; omega
    refine Bit_spec (47 + j) rfl (by omega) hx ?_
    refine Bit_spec 47 rfl (by omega) hx ?_
    have hp : (0 : Int) < 2 ^ j := Int.pow_pos (by omega)
    have h17 : x / 2 ^ 47 % 2 ^ 17 = x / 2 ^ 47 := Int.emod_eq_of_lt h47.1 h47.2
    refine bsel_in (fun c2 => ?_) fun c2 => ?_
    · have : canonZ x = false := by
        simp only [canonZ, Bool.or_eq_false_iff, beq_eq_false_iff_ne, ne_eq]
        have h7 : x / 2 ^ 47 % 2 ^ 17 % 2 ^ (j + 1) = x / 2 ^ 47 % 2 ^ (j + 1) := Int.emod_emod_of_dvd _ ⟨2 ^ (17 - (j + 1)), by rw [← Int.pow_add]; congr 1; omega⟩
        rw [h17] at h7
        constructor
        · intro q
          have hz : bitZ x 47 = false := by unfold bitZ; rw [q]; rfl
          have hz2 : bitZ x (47 + j) = true := by
            cases hb : bitZ x (47 + j) with
            | true => rfl
            | false => rw [hz, hb] at c2; simp at c2
          rw [hz, hz2, q] at hs
          simp at hs
          omega
        · intro q
          have hz : bitZ x 47 = true := by unfold bitZ; rw [q]; rfl
          have hz2 : bitZ x (47 + j) = false := by
            cases hb : bitZ x (47 + j) with
            | false => rfl
            | true => rw [hz, hb] at c2; simp at c2
          rw [hz, hz2, q] at hs
          simp at hs
          have : (131071 : Int) % 2 ^ (j + 1) = 2 ^ (j + 1) - 1 := by
            obtain rfl | rfl | rfl | rfl | rfl | rfl | rfl | rfl | rfl | rfl | rfl | rfl | rfl | rfl | rfl | rfl | rfl : j = 0 ∨ j = 1 ∨ j = 2 ∨ j = 3 ∨ j = 4 ∨ j = 5 ∨ j = 6 ∨ j = 7 ∨ j = 8 ∨ j = 9 ∨ j = 10 ∨ j = 11 ∨ j = 12 ∨ j = 13 ∨ j = 14 ∨ j = 15 ∨ j = 16 := by omega
            all_goals rfl
          rw [this, Int.pow_succ] at hs
          omega
      rw [this] at hk; exact hk
    · refine ⟨17 - (j + 1), by omega, rfl, j + 1, by rw [w64] <;> omega, by omega, rfl, ?_⟩
      simp at c2
      rw [hs, c2, Int.pow_succ]
      cases bitZ x 47 <;> simp <;> omega
  · have : j = 17 := by simp at c; omega
    subst this
    have h17 : x / 2 ^ 47 % 2 ^ 17 = x / 2 ^ 47 := Int.emod_eq_of_lt h47.1 h47.2
    rw [h17] at e5
    have : canonZ x = true := by
      unfold canonZ
      rw [e5]
      cases bitZ x 47 <;> rfl
    rw [this] at hk; exact hk
end Go.Dn
