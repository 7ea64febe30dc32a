/- Entries and addresses: what the program's functions and the document's answer. -/
import Derived.Test.YtcdcmffcajlolaaSlices
namespace Go.Dn

def U64 (x : Int) : Prop := 0 ≤ x ∧ x < 18446744073709551616
def partZ (x : Int) (k : Nat) : Int := x / 2 ^ k % 512
def frameZ (x : Int) : Int := x / 4096 % 1048576
def canonZ (x : Int) : Bool := (x / 2 ^ 47 == 0) || (x / 2 ^ 47 == 131071)
def resvd (x : Int) (level : Int) : Bool := bitZ x 0 && ((x / 2 ^ 32 % 1048576 != 0) || if level ≥ 3 then bitZ x 7 else (level == 2 && bitZ x 7 && (x / 2 ^ 12 % 512 != 0)))

variable {A : AH} {l : List SP}
theorem Canonical_spec {x : Int} {Q : Bool → AH → Prop} (hk : Q (canonZ x) A) : pte_Canonical_A x Q A := by
  unfold pte_Canonical_A
  rw [shr_eq]
  unfold canonZ at hk
  refine bsel_in (fun c => ?_) fun c => ?_
  · rw [c] at hk; exact hk
  · rw [c] at hk; exact hk
theorem bit1 {x : Int} (k : Nat) (hx : U64 x) : (bits .and .u64 (x / 2 ^ k) 1 == (1 : Int)) = bitZ x k := by
  have := shr_bound k hx.1 hx.2
  rw [and1 this.1 this.2]
  rfl
theorem bit0 {x : Int} (hx : U64 x) : (bits .and .u64 x 1 == (0 : Int)) = !bitZ x 0 := by
  rw [and1 hx.1 hx.2]
  unfold bitZ
  rcases Int.emod_two_eq x with h | h <;> simp [h]
theorem Reserved_spec {x lv : Int} {Q : Bool → AH → Prop} (hx : U64 x) (hk : Q (resvd x lv) A) : pte_Reserved_A x lv Q A := by
  unfold pte_Reserved_A
  simp only [shr_eq]
  rw [bit0 hx, bit1 7 hx]
  have h32 := shr_bound 32 hx.1 hx.2
  have h12 := shr_bound 12 hx.1 hx.2
  rw [and20 h32.1 h32.2, and511 h12.1 h12.2]
  unfold resvd at hk
  generalize (x / 2 ^ 32 % 1048576 != 0) = u at *
  generalize (x / 2 ^ 12 % 512 != 0) = v at *
  refine bsel_in (fun c => ?_) fun c => ?_
  · simp at c; simpa [c] using hk
  simp at c
  refine bsel_in (fun c2 => ?_) fun c2 => ?_
  · simpa [c, c2] using hk
  refine bsel_in (fun c3 => ?_) fun c3 => ?_
  · simp at c3; simpa [c, c2, c3] using hk
  simp at c3
  have c3' : ¬ (3 ≤ lv) := by omega
  refine bsel_in (fun c4 => ?_) fun c4 => ?_
  · refine bsel_in (fun c5 => ?_) fun c5 => ?_
    · simpa [c, c2, c3', c4, c5] using hk
    · simpa [c, c2, c3', c4, c5] using hk
  · simpa [c, c2, c3', c4] using hk
def splitCells (x : Int) (j : Nat) : List Value := (List.range 4).map fun i => .int .i64 (if i < j then partZ x (39 - 9 * i) else 0)
theorem Split_spec {x : Int} {Q : Int → Int → Int → Int → Int → AH → Prop} (hx : U64 x) (h : Own l A) (hk : ∀ A', Own l A' → Q (partZ x 39) (partZ x 30) (partZ x 21) (partZ x 12) (x % 4096) A') : pte_Split_A x Q A := by
  unfold pte_Split_A
  refine new_C (cs := splitCells x 0) h fun b A1 h1 => ?_
  refine ⟨fun i m h' => ∃ j : Nat, i = j ∧ j ≤ 4 ∧ m = 4 - j ∧ Own (At b (splitCells x j) :: l) h', ⟨4, 0, rfl, by omega, rfl, h1⟩, ?_⟩
  intro i m h' ⟨j, e1, e2, e3, ho⟩
  subst e1 e3
  refine bsel_in (fun c => ?_) fun c => ?_
  · have c : j < 4 := by simp at c; omega
    have h9 : IntKind.wrap .i64 (39 - IntKind.wrap .i64 (9 * (j : Int))) = ((39 - 9 * j : Nat) : Int) := by
      rw [w64 (n := 9 * (j : Int)) (by omega) (by omega), w64 (by omega) (by omega)]; omega
    rw [h9]
    refine bsel_f (by simp) ?_
    refine inB_in (by omega) (by omega) ?_
    rw [add_at]
    have hb := shr_bound (39 - 9 * j) hx.1 hx.2
    have hv : IntKind.wrap .i64 (bits .and .u64 (Int.fdiv x (2 ^ (min (Int.toNat ((39 - 9 * j : Nat) : Int)) 64))) 511) = partZ x (39 - 9 * j) := by
      rw [shr_eq, show min (Int.toNat ((39 - 9 * j : Nat) : Int)) 64 = 39 - 9 * j by omega, and511 hb.1 hb.2]
      exact w64 (by omega) (by omega)
    rw [hv]
    refine st_C (i := 0) ho rfl ?_ rfl fun A2 h2 => ?_
    · simp [splitCells]; omega
    refine ⟨4 - (j + 1), by omega, j + 1, by rw [w64] <;> omega, by omega, rfl, ?_⟩
    have hs : (splitCells x j).set (0 + Int.toNat (j : Int) * 1) (.int .i64 (partZ x (39 - 9 * j))) = splitCells x (j + 1) := by
      obtain rfl | rfl | rfl | rfl : j = 0 ∨ j = 1 ∨ j = 2 ∨ j = 3 := by omega
      all_goals rfl
    rw [hs] at h2
    exact h2
  · have : j = 4 := by simp at c; omega
    subst this
    rw [and4095 hx.1 hx.2, w64 (n := x % 4096) (by omega) (by omega)]
    simp only [add_at]
    refine ld_I (i := 0) ho rfl rfl ?_
    refine ld_I (i := 0) ho rfl rfl ?_
    refine ld_I (i := 0) ho rfl rfl ?_
    refine ld_I (i := 0) ho rfl rfl ?_
    exact hk _ ho.tail
def placeN : Nat → Nat | 0 => 0 | 1 => 1 | 2 => 2 | 3 => 5 | 4 => 6 | 5 => 7 | 6 => 8 | _ => 63
def entryCells (x : Int) (j : Nat) : List Value := ((List.range 8).map fun i => .bool (decide (i < j) && bitZ x (placeN i))) ++ [.int .i64 (frameZ x)]
theorem Unpack_spec {x : Int} {Q : Bool → Bool → Bool → Bool → Bool → Bool → Bool → Bool → Int → AH → Prop} (hx : U64 x) (h : Own l A)
    (hk : ∀ A', Own l A' → Q (bitZ x 0) (bitZ x 1) (bitZ x 2) (bitZ x 5) (bitZ x 6) (bitZ x 7) (bitZ x 8) (bitZ x 63) (frameZ x) A') : pte_Unpack_A x Q A := by
  unfold pte_Unpack_A pte_Unpack_G
  refine new_C (cs := [.bool false, .bool false, .bool false, .bool false, .bool false, .bool false, .bool false, .bool false, .int .i64 0]) h fun b A1 h1 => ?_
  have hb := shr_bound 12 hx.1 hx.2
  rw [shr_eq, and20 hb.1 hb.2, w64 (n := x / 2 ^ 12 % 1048576) (by omega) (by omega)]
  simp only [add_at]
  iterate 9 refine st_C (i := 0) h1 rfl rfl rfl fun A1 h1 => ?_
  unfold pte_Entry_flags_A
  simp only [onSome, add_at]
  refine ⟨fun i m h' => ∃ j : Nat, i = j ∧ j ≤ 8 ∧ m = 8 - j ∧ Own (At b (entryCells x j) :: l) h', ⟨8, 0, rfl, by omega, rfl, h1⟩, ?_⟩
  intro i m h' ⟨j, e1, e2, e3, ho⟩
  subst e1 e3
  refine bsel_in (fun c => ?_) fun c => ?_
  · have c : j < 8 := by simp at c; omega
    refine inB_in (by omega) (by omega) ?_
    have hp : ([.pointer (some ⟨b, 0, none⟩), .pointer (some ⟨b, 0 + 1, none⟩), .pointer (some ⟨b, 0 + 2, none⟩), .pointer (some ⟨b, 0 + 3, none⟩), .pointer (some ⟨b, 0 + 4, none⟩), .pointer (some ⟨b, 0 + 5, none⟩), .pointer (some ⟨b, 0 + 6, none⟩), .pointer (some ⟨b, 0 + 7, none⟩)] : List Value)[Int.toNat (j : Int)]? = some (.pointer (some ⟨b, j, none⟩)) := by
      obtain rfl | rfl | rfl | rfl | rfl | rfl | rfl | rfl : j = 0 ∨ j = 1 ∨ j = 2 ∨ j = 3 ∨ j = 4 ∨ j = 5 ∨ j = 6 ∨ j = 7 := by omega
      all_goals rfl
    refine ⟨_, hp, ?_⟩
    unfold pte_places_A
    refine inB_in (by omega) (by omega) ?_
    have hq : ([.int .i64 0, .int .i64 1, .int .i64 2, .int .i64 5, .int .i64 6, .int .i64 7, .int .i64 8, .int .i64 63] : List Value)[Int.toNat (j : Int)]? = some (.int .i64 (placeN j)) := by
      obtain rfl | rfl | rfl | rfl | rfl | rfl | rfl | rfl : j = 0 ∨ j = 1 ∨ j = 2 ∨ j = 3 ∨ j = 4 ∨ j = 5 ∨ j = 6 ∨ j = 7 := by omega
      all_goals rfl
    refine ⟨_, hq, bsel_f (by simp) ?_⟩
    have hpl : placeN j ≤ 63 := by
      obtain rfl | rfl | rfl | rfl | rfl | rfl | rfl | rfl : j = 0 ∨ j = 1 ∨ j = 2 ∨ j = 3 ∨ j = 4 ∨ j = 5 ∨ j = 6 ∨ j = 7 := by omega
      all_goals decide
    rw [shr_eq, show min (Int.toNat (placeN j : Int)) 64 = placeN j by omega, bit1 _ hx]
    refine st_C (i := 0) ho rfl ?_ rfl fun A2 h2 => ?_
    · simp [entryCells]; omega
    refine ⟨8 - (j + 1), by omega, j + 1, by rw [w64] <;> omega, by omega, rfl, ?_⟩
    have hs : (entryCells x j).set j (.bool (bitZ x (placeN j))) = entryCells x (j + 1) := by
      obtain rfl | rfl | rfl | rfl | rfl | rfl | rfl | rfl : j = 0 ∨ j = 1 ∨ j = 2 ∨ j = 3 ∨ j = 4 ∨ j = 5 ∨ j = 6 ∨ j = 7 := by omega
      all_goals rfl
    rw [hs] at h2
    exact h2
  · have : j = 8 := by simp at c; omega
    subst this
    iterate 8 refine ld_B (i := 0) ho rfl rfl ?_
    refine ld_I (i := 0) ho rfl rfl ?_
    exact hk _ ho.tail

/- The document's. -/
theorem mod_pow_succ {x : Int} (n : Nat) : x % 2 ^ (n + 1) = x % 2 ^ n + 2 ^ n * (x / 2 ^ n % 2) := by
  have hp : (0 : Int) < 2 ^ n := Int.pow_pos (by omega)
  rw [Int.pow_succ]
  have h1 := Int.mul_ediv_add_emod x (2 ^ n)
  have h2 := Int.mul_ediv_add_emod (x / 2 ^ n) 2
  have h3 := Int.emod_nonneg x (show (2 : Int) ^ n ≠ 0 by omega)
  have h4 := Int.emod_lt_of_pos x hp
  have h5 := Int.emod_two_eq (x / 2 ^ n)
  have hx : x = (2 ^ n * 2) * (x / 2 ^ n / 2) + (x % 2 ^ n + 2 ^ n * (x / 2 ^ n % 2)) := by
    rw [Int.mul_assoc, ← Int.add_assoc, Int.add_right_comm, ← Int.mul_add, h2, h1]
  have hb : 0 ≤ x % 2 ^ n + 2 ^ n * (x / 2 ^ n % 2) ∧ x % 2 ^ n + 2 ^ n * (x / 2 ^ n % 2) < 2 ^ n * 2 := by
    rcases h5 with h5 | h5 <;> rw [h5] <;> omega
  conv => lhs; rw [hx]
  rw [Int.add_comm, Int.add_mul_emod_self_left]
  exact Int.emod_eq_of_lt hb.1 hb.2
theorem bitZ_val (x : Int) (k : Nat) : (if bitZ x k then 1 else 0 : Int) = x / 2 ^ k % 2 := by
  unfold bitZ
  rcases Int.emod_two_eq (x / 2 ^ k) with h | h <;> simp [h]
end Go.Dn
