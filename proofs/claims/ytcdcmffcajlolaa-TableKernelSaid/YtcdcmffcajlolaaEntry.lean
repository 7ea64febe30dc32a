/- Entries written and read. -/
import Derived.Test.YtcdcmffcajlolaaMaps
import Derived.Test.YtcdcmffcajlolaaWalk
namespace Go.Dn

variable {A : AH} {l R : List SP} {r : Nat} {fr : Int} {hs : List (Int × Int)} {M : Int → Int}
def eZ (b : Bool) : Int := if b then 1 else 0
theorem eZ_b (b : Bool) : 0 ≤ eZ b ∧ eZ b ≤ 1 := by cases b <;> decide
/-- An entry as a number. -/
def packZ (b0 b1 b2 b3 b4 b5 b6 b7 : Bool) (f : Int) : Int := f * 4096 + eZ b0 + 2 * eZ b1 + 4 * eZ b2 + 32 * eZ b3 + 64 * eZ b4 + 128 * eZ b5 + 256 * eZ b6 + 9223372036854775808 * eZ b7
def pkZ (p : Nat → Bool) (f : Int) : Nat → Int
  | 0 => f * 4096
  | j + 1 => pkZ p f j + 2 ^ placeN j * eZ (p j)
theorem pack_bits (b0 b1 b2 b3 b4 b5 b6 b7 : Bool) {f : Int} (hf : 0 ≤ f ∧ f < 1048576) : bitZ (packZ b0 b1 b2 b3 b4 b5 b6 b7 f) 0 = b0 ∧ bitZ (packZ b0 b1 b2 b3 b4 b5 b6 b7 f) 1 = b1 ∧ bitZ (packZ b0 b1 b2 b3 b4 b5 b6 b7 f) 2 = b2 ∧
    bitZ (packZ b0 b1 b2 b3 b4 b5 b6 b7 f) 5 = b3 ∧ bitZ (packZ b0 b1 b2 b3 b4 b5 b6 b7 f) 6 = b4 ∧ bitZ (packZ b0 b1 b2 b3 b4 b5 b6 b7 f) 7 = b5 ∧ bitZ (packZ b0 b1 b2 b3 b4 b5 b6 b7 f) 8 = b6 ∧ bitZ (packZ b0 b1 b2 b3 b4 b5 b6 b7 f) 63 = b7 ∧
    frameZ (packZ b0 b1 b2 b3 b4 b5 b6 b7 f) = f ∧ U64 (packZ b0 b1 b2 b3 b4 b5 b6 b7 f) := by
  have h0 := eZ_b b0
  have h1 := eZ_b b1
  have h2 := eZ_b b2
  have h3 := eZ_b b3
  have h4 := eZ_b b4
  have h5 := eZ_b b5
  have h6 := eZ_b b6
  have h7 := eZ_b b7
  have key : ∀ (x : Int) (k : Nat) (b : Bool), x / 2 ^ k % 2 = eZ b → bitZ x k = b := by
    intro x k b h
    unfold bitZ
    rw [h]
    cases b <;> rfl
  refine ⟨key _ _ _ ?_, key _ _ _ ?_, key _ _ _ ?_, key _ _ _ ?_, key _ _ _ ?_, key _ _ _ ?_, key _ _ _ ?_, key _ _ _ ?_, ?_, ?_⟩
  all_goals unfold packZ
  · omega
  · omega
  · omega
  · omega
  · omega
  · omega
  · omega
  · omega
  · unfold frameZ; omega
  · unfold U64; omega
theorem pk_step (p : Nat → Bool) {f : Int} (hf : 0 ≤ f ∧ f < 1048576) {j : Nat} (hj : j < 8) : bitZ (pkZ p f j) (placeN j) = false ∧ U64 (pkZ p f j) := by
  have h0 := eZ_b (p 0)
  have h1 := eZ_b (p 1)
  have h2 := eZ_b (p 2)
  have h3 := eZ_b (p 3)
  have h4 := eZ_b (p 4)
  have h5 := eZ_b (p 5)
  have h6 := eZ_b (p 6)
  have key : ∀ (x : Int) (k : Nat), x / 2 ^ k % 2 = 0 → bitZ x k = false := by
    intro x k h
    unfold bitZ
    rw [h]; rfl
  obtain rfl | rfl | rfl | rfl | rfl | rfl | rfl | rfl : j = 0 ∨ j = 1 ∨ j = 2 ∨ j = 3 ∨ j = 4 ∨ j = 5 ∨ j = 6 ∨ j = 7 := by omega
  all_goals (refine ⟨key _ _ ?_, ?_⟩ <;> simp only [pkZ, placeN, U64] <;> omega)
theorem pk_8 (b0 b1 b2 b3 b4 b5 b6 b7 : Bool) (f : Int) : pkZ (fun i => [b0, b1, b2, b3, b4, b5, b6, b7].getD i false) f 8 = packZ b0 b1 b2 b3 b4 b5 b6 b7 f := by
  simp only [pkZ, placeN, packZ, List.getD_cons_zero, List.getD_cons_succ]
  omega
set_option maxHeartbeats 1000000 in
theorem Pack_spec {b0 b1 b2 b3 b4 b5 b6 b7 : Bool} {f : Int} {Q : Int → Int → AH → Prop} (h : Own l A) (hf : 0 ≤ f ∧ f < 1048576) (hk : ∀ A', Own l A' → Q (packZ b0 b1 b2 b3 b4 b5 b6 b7 f) 0 A') : pte_Pack_A b0 b1 b2 b3 b4 b5 b6 b7 f Q A := by
  unfold pte_Pack_A pte_Pack_G
  show newA A (.cells [.bool b0, .bool b1, .bool b2, .bool b3, .bool b4, .bool b5, .bool b6, .bool b7, .int .i64 f].toArray _) _
  refine new_C h fun b A1 h1 => ?_
  simp only [add_at]
  refine ⟨fun h6 => h6 = A1, ?_, ld_I (i := 0) h1 rfl rfl (bsel_f (by simp; omega) (ld_I (i := 0) h1 rfl rfl (bsel_f (by simp; omega) rfl)))⟩
  intro A2 e2
  subst e2
  refine ld_I (i := 0) h1 rfl rfl ?_
  unfold pte_Entry_flags_A
  simp only [onSome, add_at]
  refine ⟨fun x y m h' => h' = A2 ∧ ∃ j : Nat, y = j ∧ j ≤ 8 ∧ 8 - j = m ∧ x = pkZ (fun i => [b0, b1, b2, b3, b4, b5, b6, b7].getD i false) f j, ⟨_, rfl, 0, rfl, by omega, rfl, ?_⟩, ?_⟩
  · rw [wu64 (n := f) (by omega) (by omega)]
    show IntKind.wrap .u64 (f * 4096) = f * 4096
    rw [wu64] <;> omega
  intro x y m h' ⟨e0, j, e1, e2, e3, e4⟩
  subst e0 e1 e3 e4
  refine bsel_in (fun c => ?_) fun c => ?_
  rotate_left
  · have : j = 8 := by simp at c; omega
    subst this
    rw [pk_8]
    exact hk _ h1.tail
  have c : j < 8 := by simp at c; omega
  obtain ⟨hb, hU⟩ := pk_step (fun i => [b0, b1, b2, b3, b4, b5, b6, b7].getD i false) hf c
  have hpl : placeN j ≤ 63 := by
    obtain rfl | rfl | rfl | rfl | rfl | rfl | rfl | rfl : j = 0 ∨ j = 1 ∨ j = 2 ∨ j = 3 ∨ j = 4 ∨ j = 5 ∨ j = 6 ∨ j = 7 := by omega
    all_goals decide
  have hp : ([.pointer (some ⟨b, 0, none⟩), .pointer (some ⟨b, 0 + 1, none⟩), .pointer (some ⟨b, 0 + 2, none⟩), .pointer (some ⟨b, 0 + 3, none⟩), .pointer (some ⟨b, 0 + 4, none⟩), .pointer (some ⟨b, 0 + 5, none⟩), .pointer (some ⟨b, 0 + 6, none⟩), .pointer (some ⟨b, 0 + 7, none⟩)] : List Value)[Int.toNat (j : Int)]? = some (.pointer (some ⟨b, j, none⟩)) := by
    obtain rfl | rfl | rfl | rfl | rfl | rfl | rfl | rfl : j = 0 ∨ j = 1 ∨ j = 2 ∨ j = 3 ∨ j = 4 ∨ j = 5 ∨ j = 6 ∨ j = 7 := by omega
    all_goals rfl
  have hq : ([.int .i64 0, .int .i64 1, .int .i64 2, .int .i64 5, .int .i64 6, .int .i64 7, .int .i64 8, .int .i64 63] : List Value)[Int.toNat (j : Int)]? = some (.int .i64 (placeN j)) := by
    obtain rfl | rfl | rfl | rfl | rfl | rfl | rfl | rfl : j = 0 ∨ j = 1 ∨ j = 2 ∨ j = 3 ∨ j = 4 ∨ j = 5 ∨ j = 6 ∨ j = 7 := by omega
    all_goals rfl
  have hc : ([.bool b0, .bool b1, .bool b2, .bool b3, .bool b4, .bool b5, .bool b6, .bool b7, .int .i64 f] : List Value)[j]? = some (.bool ([b0, b1, b2, b3, b4, b5, b6, b7].getD j false)) := by
    obtain rfl | rfl | rfl | rfl | rfl | rfl | rfl | rfl : j = 0 ∨ j = 1 ∨ j = 2 ∨ j = 3 ∨ j = 4 ∨ j = 5 ∨ j = 6 ∨ j = 7 := by omega
    all_goals rfl
  refine ⟨fun x h9 => h9 = h' ∧ x = pkZ (fun i => [b0, b1, b2, b3, b4, b5, b6, b7].getD i false) f (j + 1), fun x h9 ⟨q1, q2⟩ => ⟨8 - (j + 1), by omega, q1, j + 1, by rw [w64] <;> omega, by omega, rfl, q2⟩, ?_⟩
  refine inB_in (by omega) (by omega) ⟨_, hp, ?_⟩
  refine ld_B (i := 0) h1 rfl hc ?_
  unfold pte_places_A
  cases hv : [b0, b1, b2, b3, b4, b5, b6, b7].getD j false with
  | false => exact ⟨rfl, by simp only [pkZ, hv, eZ]; simp⟩
  | true =>
    refine inB_in (by omega) (by omega) ⟨_, hq, bsel_f (by simp) ⟨rfl, ?_⟩⟩
    rw [show min (Int.toNat (placeN j : Int)) 64 = placeN j by omega, Int.one_mul]
    have h2p : (2 : Int) ^ placeN j = ((2 ^ placeN j : Nat) : Int) := by simp
    have hle : (2 : Int) ^ placeN j ≤ 2 ^ 63 := by
      have : (2 : Nat) ^ placeN j ≤ 2 ^ 63 := Nat.pow_le_pow_right (by omega) hpl
      have h3 : ((2 ^ placeN j : Nat) : Int) ≤ ((2 ^ 63 : Nat) : Int) := Int.ofNat_le.2 this
      simpa using h3
    have hpos : (0 : Int) < 2 ^ placeN j := Int.pow_pos (by omega)
    rw [wu64 (n := (2 : Int) ^ placeN j) (by omega) (by omega), bitZ_or (placeN j) (2 ^ placeN j) h2p hpl hU.1 hU.2, hb]
    simp only [pkZ, hv, eZ]
    simp
end Go.Dn
