/- Numbers that wrap; slices; loops that count. -/
import Derived.Test.YtbmolaogibmbiaaGreatDnM
namespace Go.Dn

theorem w64 {n : Int} (h0 : -9223372036854775808 ≤ n) (h1 : n < 9223372036854775808) : IntKind.wrap .i64 n = n := by
  simp only [IntKind.wrap, IntKind.bits, IntKind.signed]
  simp only [Bool.true_and, decide_eq_true_eq, ge_iff_le]
  split <;> omega
theorem wu64m (n : Int) : IntKind.wrap .u64 n = n % 18446744073709551616 := by
  simp [IntKind.wrap, IntKind.bits, IntKind.signed]
theorem wu64 {n : Int} (h0 : 0 ≤ n) (h1 : n < 18446744073709551616) : IntKind.wrap .u64 n = n := by
  rw [wu64m]; omega
theorem wu8 (n : Int) : IntKind.wrap .u8 n = n % 256 := by
  simp [IntKind.wrap, IntKind.bits, IntKind.signed]
theorem tdiv4096 {n : Int} (h : 0 ≤ n) : Int.tdiv n 4096 = n / 4096 := Int.tdiv_eq_ediv_of_nonneg h
theorem tmod4096 {n : Int} (h : 0 ≤ n) : Int.tmod n 4096 = n % 4096 := Int.tmod_eq_emod_of_nonneg h
theorem inB_in {i : Int} {n : Nat} {K : Prop} (h0 : 0 ≤ i) (h1 : i < n) (hk : K) : inB i n K := by
  unfold inB
  simp [bsel, h0, h1, hk]
theorem bsel_in {b : Bool} {X Y : Prop} (hx : b = true → X) (hy : b = false → Y) : bsel b X Y := bsel_iff.2 ⟨hx, hy⟩
theorem bsel_t {b : Bool} {X Y : Prop} (hb : b = true) (hx : X) : bsel b X Y := by subst hb; exact hx
theorem bsel_f {b : Bool} {X Y : Prop} (hb : b = false) (hy : Y) : bsel b X Y := by subst hb; exact hy
theorem add_at {b o n : Nat} : Addr.add ⟨b, o, none⟩ n = ⟨b, o + n, none⟩ := by
  unfold Addr.add
  split
  · subst_vars; rfl
  · rfl

/-- The cells of a slice. -/
def SlAt (s : Sl) (sz : Nat) (cs : List Value) : SP := fun B => s.len * sz = cs.length ∧ s.len ≤ s.cap ∧
  (cs ≠ [] → ∃ b pre rest, s.a = some ⟨b, pre.length, none⟩ ∧ At b (pre ++ cs ++ rest) B)
theorem SlAt.cell {A B : AH} {s : Sl} {sz : Nat} {cs : List Value} {j : Nat} {v : Value} (h : SlAt s sz cs B) (u : Sub B A) (hv : cs[j]? = some v) : ∃ b o, s.a = some ⟨b, o, none⟩ ∧ cellA A ⟨b, o + j, none⟩ = some v := by
  obtain ⟨h1, h2, h3⟩ := h
  have hj := (List.getElem?_eq_some_iff.1 hv).1
  obtain ⟨b, pre, rest, h4, t, h5⟩ := h3 (by intro q; subst q; simp at hj)
  refine ⟨b, pre.length, h4, ?_⟩
  have := u _ _ h5
  simp only [cellA, this]
  simp only [Option.isSome_none, Bool.false_eq_true, if_false, List.getElem?_toArray]
  rw [List.append_assoc, List.getElem?_append_right (by omega), List.getElem?_append_left (by omega)]
  rw [show pre.length + j - pre.length = j by omega]
  exact hv
theorem sl_len {A : AH} {l : List SP} {i : Nat} {s : Sl} {sz : Nat} {cs : List Value} (h : Own l A) (e : l[i]? = some (SlAt s sz cs)) : s.len * sz = cs.length := by
  obtain ⟨B, _, h1⟩ := h.get e
  exact h1.1
theorem sl_cell {A : AH} {l : List SP} {i : Nat} {s : Sl} {sz : Nat} {cs : List Value} {j : Nat} {v : Value} (h : Own l A) (e : l[i]? = some (SlAt s sz cs)) (hv : cs[j]? = some v) : ∃ b o, s.a = some ⟨b, o, none⟩ ∧ cellA A ⟨b, o + j, none⟩ = some v := by
  obtain ⟨B, u, h1⟩ := h.get e
  exact h1.cell u hv

/-- In a part of this form the slice reads so. -/
def Reads (P : SP) (s : Sl) (sz : Nat) (cs : List Value) : Prop := ∀ B A, P B → Sub B A → s.len * sz = cs.length ∧
  ∀ j v, cs[j]? = some v → ∃ b o, s.a = some ⟨b, o, none⟩ ∧ cellA A ⟨b, o + j, none⟩ = some v
theorem reads_slat {s : Sl} {sz : Nat} {cs : List Value} : Reads (SlAt s sz cs) s sz cs := fun _ _ h u => ⟨h.1, fun _ _ hv => h.cell u hv⟩
theorem rd_len {A : AH} {l : List SP} {P : SP} {i : Nat} {s : Sl} {sz : Nat} {cs : List Value} (h : Own l A) (e : l[i]? = some P) (r : Reads P s sz cs) : s.len * sz = cs.length := by
  obtain ⟨B, u, h1⟩ := h.get e
  exact (r B A h1 u).1
theorem rd_cell {A : AH} {l : List SP} {P : SP} {i : Nat} {s : Sl} {sz : Nat} {cs : List Value} {j : Nat} {v : Value} (h : Own l A) (e : l[i]? = some P) (r : Reads P s sz cs) (hv : cs[j]? = some v) : ∃ b o, s.a = some ⟨b, o, none⟩ ∧ cellA A ⟨b, o + j, none⟩ = some v := by
  obtain ⟨B, u, h1⟩ := h.get e
  exact (r B A h1 u).2 j v hv
theorem bits_or {x y : Nat} (hx : x < 2 ^ 64) (hy : y < 2 ^ 64) : bits .or .u64 x y = ((x ||| y : Nat) : Int) := by
  have h1 : x ||| y < 2 ^ 64 := Nat.or_lt_two_pow hx hy
  have h2 : bits .or .u64 x y = IntKind.wrap .u64 ((BitVec.ofInt 64 x ||| BitVec.ofInt 64 y).toNat : Int) := rfl
  rw [h2, BitVec.toNat_or, BitVec.ofInt_natCast, BitVec.ofInt_natCast, BitVec.toNat_ofNat, BitVec.toNat_ofNat, Nat.mod_eq_of_lt hx, Nat.mod_eq_of_lt hy]
  exact wu64 (by omega) (by omega)
theorem bits_and {x y : Nat} (hx : x < 2 ^ 64) (hy : y < 2 ^ 64) : bits .and .u64 x y = ((x &&& y : Nat) : Int) := by
  have h1 : x &&& y < 2 ^ 64 := Nat.and_lt_two_pow _ hy
  have h2 : bits .and .u64 x y = IntKind.wrap .u64 ((BitVec.ofInt 64 x &&& BitVec.ofInt 64 y).toNat : Int) := rfl
  rw [h2, BitVec.toNat_and, BitVec.ofInt_natCast, BitVec.ofInt_natCast, BitVec.toNat_ofNat, BitVec.toNat_ofNat, Nat.mod_eq_of_lt hx, Nat.mod_eq_of_lt hy]
  exact wu64 (by omega) (by omega)
theorem bits_or_byte {x b : Int} (h0 : 0 ≤ x) (h1 : x < 72057594037927936) (h2 : 0 ≤ b) (h3 : b < 256) :
    bits .or .u64 (IntKind.wrap .u64 (x * 2 ^ (8 : Nat))) (IntKind.wrap .u64 b) = b + 256 * x := by
  obtain ⟨x, rfl⟩ := Int.eq_ofNat_of_zero_le h0
  obtain ⟨b, rfl⟩ := Int.eq_ofNat_of_zero_le h2
  rw [wu64 (by omega) (by omega), wu64 (by omega) (by omega)]
  rw [show ((x : Int) * 2 ^ (8 : Nat)) = ((x * 256 : Nat) : Int) by simp]
  rw [bits_or (by omega) (by omega)]
  have := Nat.shiftLeft_add_eq_or_of_lt (b := b) (i := 8) (by omega) x
  rw [Nat.shiftLeft_eq] at this
  rw [← show x * 2 ^ 8 = x * 256 by rfl, ← this]
  omega
/-- A number out of its bytes, the lowest first. -/
def le (M : Int → Int) (a : Int) : Nat → Int
  | 0 => 0
  | n + 1 => M a + 256 * le M (a + 1) n
theorem le_bound {M : Int → Int} (h : ∀ a, 0 ≤ M a ∧ M a < 256) : ∀ (n : Nat) (a : Int), 0 ≤ le M a n ∧ le M a n < 256 ^ n
  | 0, _ => ⟨Int.le_refl _, by simp [le]⟩
  | n + 1, a => by
    obtain ⟨h1, h2⟩ := le_bound h n (a + 1)
    obtain ⟨h3, h4⟩ := h a
    rw [Int.pow_succ]
    simp only [le]
    omega

theorem and_mask {x : Int} (k : Nat) (m : Int) (hm : m = ((2 ^ k - 1 : Nat) : Int)) (hk : k ≤ 63) (h0 : 0 ≤ x) (h1 : x < 18446744073709551616) : bits .and .u64 x m = x % ((2 ^ k : Nat) : Int) := by
  obtain ⟨x, rfl⟩ := Int.eq_ofNat_of_zero_le h0
  have h2 : (2 : Nat) ^ k ≤ 2 ^ 63 := Nat.pow_le_pow_right (by omega) hk
  have h3 : 0 < (2 : Nat) ^ k := Nat.two_pow_pos k
  subst hm
  rw [bits_and (by omega) (by omega), Nat.and_two_pow_sub_one_eq_mod]
  omega
theorem and1 {x : Int} (h0 : 0 ≤ x) (h1 : x < 18446744073709551616) : bits .and .u64 x 1 = x % 2 := and_mask 1 1 rfl (by omega) h0 h1
theorem and511 {x : Int} (h0 : 0 ≤ x) (h1 : x < 18446744073709551616) : bits .and .u64 x 511 = x % 512 := and_mask 9 511 rfl (by omega) h0 h1
theorem and4095 {x : Int} (h0 : 0 ≤ x) (h1 : x < 18446744073709551616) : bits .and .u64 x 4095 = x % 4096 := and_mask 12 4095 rfl (by omega) h0 h1
theorem and20 {x : Int} (h0 : 0 ≤ x) (h1 : x < 18446744073709551616) : bits .and .u64 x 1048575 = x % 1048576 := and_mask 20 1048575 rfl (by omega) h0 h1
theorem shr_eq {x : Int} {n : Nat} : Int.fdiv x (2 ^ n) = x / 2 ^ n := Int.fdiv_eq_ediv_of_nonneg _ (Int.pow_nonneg (by omega))
theorem shr_bound {x : Int} (n : Nat) (h0 : 0 ≤ x) (h1 : x < 18446744073709551616) : 0 ≤ x / 2 ^ n ∧ x / 2 ^ n < 18446744073709551616 := by
  have hp : (0 : Int) < 2 ^ n := Int.pow_pos (by omega)
  refine ⟨Int.ediv_nonneg h0 (by omega), ?_⟩
  exact Int.lt_of_le_of_lt (Int.ediv_le_self _ h0) h1
/-- A bit of a number. -/
def bitZ (x : Int) (k : Nat) : Bool := x / 2 ^ k % 2 == 1
theorem bitZ_or {x : Int} (k : Nat) (m : Int) (hm : m = ((2 ^ k : Nat) : Int)) (hk : k ≤ 63) (h0 : 0 ≤ x) (h1 : x < 18446744073709551616) : bits .or .u64 x m = if bitZ x k then x else x + m := by
  obtain ⟨x, rfl⟩ := Int.eq_ofNat_of_zero_le h0
  have h2 : (2 : Nat) ^ k ≤ 2 ^ 63 := Nat.pow_le_pow_right (by omega) hk
  subst hm
  rw [bits_or (by omega) (by omega)]
  have hb : bitZ (x : Int) k = x.testBit k := by
    unfold bitZ
    rw [Nat.testBit_eq_decide_div_mod_eq]
    have : (x : Int) / 2 ^ k % 2 = ((x / 2 ^ k % 2 : Nat) : Int) := by simp
    rw [this]
    by_cases h : x / 2 ^ k % 2 = 1
    · simp [h]
    · simp [h]; omega
  rw [hb]
  cases h : x.testBit k with
  | true =>
    simp only [if_true]
    congr 1
    apply Nat.eq_of_testBit_eq
    intro i
    rw [Nat.testBit_or, Nat.testBit_two_pow]
    by_cases e : k = i
    · subst e; simp [h]
    · simp [e]
  | false =>
    simp only [Bool.false_eq_true, if_false]
    rw [Nat.testBit_eq_decide_div_mod_eq] at h
    have h : x / 2 ^ k % 2 = 0 := by
      have := of_decide_eq_false h
      omega
    have hr : x % 2 ^ k < 2 ^ k := Nat.mod_lt _ (Nat.two_pow_pos k)
    have hx : 2 ^ (k + 1) * (x / 2 ^ k / 2) + x % 2 ^ k = x := by
      have h7 := Nat.div_add_mod x (2 ^ k)
      have h8 := Nat.div_add_mod (x / 2 ^ k) 2
      rw [Nat.pow_succ, Nat.mul_assoc]
      rw [h, Nat.add_zero] at h8
      rw [h8]
      exact h7
    have h9 := Nat.two_pow_add_eq_or_of_lt (i := k + 1) (b := x % 2 ^ k) (by rw [Nat.pow_succ]; omega) (x / 2 ^ k / 2)
    have h10 := Nat.two_pow_add_eq_or_of_lt (i := k) (b := x % 2 ^ k) hr 1
    have h11 := Nat.two_pow_add_eq_or_of_lt (i := k + 1) (b := 2 ^ k * 1 + x % 2 ^ k) (by rw [Nat.pow_succ]; omega) (x / 2 ^ k / 2)
    have h12 : x ||| 2 ^ k = x + 2 ^ k := by
      have e1 : x ||| 2 ^ k = 2 ^ (k + 1) * (x / 2 ^ k / 2) ||| (2 ^ k * 1 + x % 2 ^ k) := by
        rw [h10, Nat.mul_one, Nat.or_comm (2 ^ k), ← Nat.or_assoc, ← h9, hx]
      rw [e1, ← h11]
      omega
    omega
end Go.Dn
