/- A large page leads to 512 frames in a row. -/
import Derived.Test.YtnjbnhciheeboaaLawPages
namespace Go.Dn

variable {A : AH} {l : List SP}
def lPuts (x : Int) : List Put := [⟨0, 0, 4103⟩, ⟨1, 0, 8199⟩, ⟨2, 3, x⟩]
theorem or_add {n b i : Nat} (hb : b < 2 ^ i) (hn : 2 ^ i * n + b < 2 ^ 64) : bits .or .u64 ((2 ^ i * n : Nat) : Int) (b : Int) = ((2 ^ i * n + b : Nat) : Int) := by
  rw [bits_or (by omega) (by omega), ← Nat.two_pow_add_eq_or_of_lt hb n]
theorem lWord {x : Int} (hx : U64 x) : le (layM (lPuts x)) 0 8 = 4103 ∧ le (layM (lPuts x)) 4096 8 = 8199 ∧ le (layM (lPuts x)) 8216 8 = x := by
  have e : layM (lPuts x) = stM (stM (stM (fun _ => 0) 0 8 4103) 4096 8 8199) 8216 8 x := by kernel_rfl
  rw [e]
  refine ⟨?_, ?_, ?_⟩
  · rw [le_apart _ _ _ _ _ _ (by omega), le_apart _ _ _ _ _ _ (by omega), le_same _ _ _ _ (by decide) (by decide)]
  · rw [le_apart _ _ _ _ _ _ (by omega), le_same _ _ _ _ (by decide) (by decide)]
  · exact le_same _ _ _ 8 hx.1 hx.2
theorem lCore {x at_ : Int} (hx : U64 x) (h0 : 0 ≤ at_) (h1 : at_ ≤ 511) (hp : bitZ x 0 = true) (hl : bitZ x 7 = true) (hh : x / 4294967296 % 1048576 = 0) :
    coreZ 8 holes7 (layM (lPuts x)) 0 (6291456 + at_ * 4096 + 5) = if x / 4096 % 512 = 0 then .leaf (frameZ x + at_) (bitZ x 1) (bitZ x 2) (!bitZ x 63) (bitZ x 8) true (bitZ x 6) [0, 4096, 8216] else .fault 9 := by
  obtain ⟨w0, w1, w2⟩ := lWord hx
  have p39 : partZ (6291456 + at_ * 4096 + 5) 39 = 0 := by unfold partZ; rw [show (2 : Int) ^ 39 = 549755813888 by rfl]; omega
  have p30 : partZ (6291456 + at_ * 4096 + 5) 30 = 0 := by unfold partZ; rw [show (2 : Int) ^ 30 = 1073741824 by rfl]; omega
  have p21 : partZ (6291456 + at_ * 4096 + 5) 21 = 3 := by unfold partZ; rw [show (2 : Int) ^ 21 = 2097152 by rfl]; omega
  have p12 : partZ (6291456 + at_ * 4096 + 5) 12 = at_ := by unfold partZ; rw [show (2 : Int) ^ 12 = 4096 by rfl]; omega
  have hc : canonZ (6291456 + at_ * 4096 + 5) = true := by unfold canonZ; rw [show (2 : Int) ^ 47 = 140737488355328 by rfl, show (6291456 + at_ * 4096 + 5) / 140737488355328 = 0 by omega]; rfl
  have q3 : placeZ 0 (6291456 + at_ * 4096 + 5) 3 = 0 := by unfold placeZ; rw [show 12 + 9 * 3 = 39 by rfl, p39]; rfl
  have q2 : placeZ 1 (6291456 + at_ * 4096 + 5) 2 = 4096 := by unfold placeZ; rw [show 12 + 9 * 2 = 30 by rfl, p30]; rfl
  have q1 : placeZ 2 (6291456 + at_ * 4096 + 5) 1 = 8216 := by unfold placeZ; rw [show 12 + 9 * 1 = 21 by rfl, p21]; rfl
  have hr : resvd x 2 = (x / 4096 % 512 != 0) := by
    unfold resvd
    rw [hp, hl, show (2 : Int) ^ 32 = 4294967296 by rfl, show (2 : Int) ^ 12 = 4096 by rfl, hh]
    simp
  unfold coreZ
  rw [if_neg (by simp [hc]), if_neg (by decide)]
  rw [walkC, q3, w0, if_neg (by decide), if_neg (by decide), if_neg (by decide), if_neg (by decide), show frameZ 4103 = 1 by decide]
  rw [walkC, q2, w1, if_neg (by decide), if_neg (by decide), if_neg (by decide), if_neg (by decide), show frameZ 8199 = 2 by decide]
  rw [walkC, q1, w2, if_neg (by decide), if_neg (by simp [hp])]
  have e2 : ((1 : Nat) : Int) + 1 = 2 := rfl
  rw [e2, hr, if_pos rfl, p12]
  by_cases g : x / 4096 % 512 = 0
  · rw [if_neg (by simp [g]), if_pos (.inr ⟨rfl, hl⟩), if_pos g]
    rfl
  · rw [if_pos (by simp [g]), if_neg g]
theorem WalkLarge_A {frame at_ bit : Int} {aw au af : Bool} {Q : Bool → AH → Prop} (h : Own l A) (hk : ∀ A', Own l A' → Q true A') : demesnelaw04_WalkLarge_A frame at_ bit aw au af Q A := by
  unfold demesnelaw04_WalkLarge_A
  refine bsel_in (fun c => awake_spec h fun _ h => hk _ h) fun c1 => ?_
  refine bsel_in (fun c => awake_spec h fun _ h => hk _ h) fun c2 => ?_
  refine bsel_in (fun c => awake_spec h fun _ h => hk _ h) fun c3 => ?_
  refine bsel_in (fun c => awake_spec h fun _ h => hk _ h) fun c4 => ?_
  refine bsel_in (fun c => awake_spec h fun _ h => hk _ h) fun c5 => ?_
  refine bsel_in (fun c => awake_spec h fun _ h => hk _ h) fun c6 => ?_
  simp at c1 c2 c3 c4 c5 c6
  have hx0 : bits .or .u64 (IntKind.wrap .u64 ((IntKind.wrap .u64 frame) * 2 ^ (21 : Nat))) (135 : Int) = frame * 2097152 + 135 := by
    obtain ⟨n, rfl⟩ := Int.eq_ofNat_of_zero_le c1
    rw [wu64 (n := (n : Int)) (by omega) (by omega), show ((n : Int) * 2 ^ (21 : Nat)) = ((2 ^ 21 * n : Nat) : Int) by simp; omega, wu64 (by omega) (by omega)]
    exact (or_add (n := n) (b := 135) (i := 21) (by omega) (by omega)).trans (by omega)
  have ha : bits .or .u64 (bits .or .u64 (6291456 : Int) (IntKind.wrap .u64 ((IntKind.wrap .u64 at_) * 2 ^ (12 : Nat)))) (5 : Int) = 6291456 + at_ * 4096 + 5 := by
    obtain ⟨n, rfl⟩ := Int.eq_ofNat_of_zero_le c3
    rw [wu64 (n := (n : Int)) (by omega) (by omega), show ((n : Int) * 2 ^ (12 : Nat)) = ((n * 4096 : Nat) : Int) by simp, wu64 (by omega) (by omega)]
    have e1 := or_add (n := 3) (b := n * 4096) (i := 21) (by omega) (by omega)
    rw [show (6291456 : Int) = ((2 ^ 21 * 3 : Nat) : Int) by rfl, e1, show 2 ^ 21 * 3 + n * 4096 = 2 ^ 12 * (1536 + n) by omega]
    exact (or_add (n := 1536 + n) (b := 5) (i := 12) (by omega) (by omega)).trans (by omega)
  rw [hx0, ha]
  refine ⟨fun x h' => Own l h' ∧ ((bit < 12 ∧ x = frame * 2097152 + 135) ∨ (12 ≤ bit ∧ ∃ e, 0 < e ∧ e < 512 ∧ x = frame * 2097152 + 135 + e * 4096)), ?_, ?_⟩
  · intro x h' ⟨h, hx⟩
    have hform : ∃ e, 0 ≤ e ∧ e < 512 ∧ x = frame * 2097152 + 135 + e * 4096 := by
      rcases hx with ⟨_, hx⟩ | ⟨_, e, e0, e1, hx⟩
      · exact ⟨0, by omega, by omega, by omega⟩
      · exact ⟨e, by omega, e1, hx⟩
    obtain ⟨e, e0, e1, hxe⟩ := hform
    have hU : U64 x := ⟨by omega, by omega⟩
    have b0 : bitZ x 0 = true := by unfold bitZ; rw [show (2 : Int) ^ 0 = 1 by rfl]; simp; omega
    have b1 : bitZ x 1 = true := by unfold bitZ; rw [show (2 : Int) ^ 1 = 2 by rfl]; simp; omega
    have b2 : bitZ x 2 = true := by unfold bitZ; rw [show (2 : Int) ^ 2 = 4 by rfl]; simp; omega
    have b6 : bitZ x 6 = false := by unfold bitZ; rw [show (2 : Int) ^ 6 = 64 by rfl]; simp; omega
    have b7 : bitZ x 7 = true := by unfold bitZ; rw [show (2 : Int) ^ 7 = 128 by rfl]; simp; omega
    have b63 : bitZ x 63 = false := by unfold bitZ; rw [show (2 : Int) ^ 63 = 9223372036854775808 by rfl]; simp; omega
    have hcore := lCore (at_ := at_) hU c3 (by omega) b0 b7 (by omega)
    refine new_C h fun b17 _ h => ?_
    have h := Own.imp (P' := SlAt ⟨some ⟨b17, 0, none⟩, 3, 3⟩ 3 (putCells (lPuts x))) (fun B hB => ⟨rfl, Nat.le_refl _, fun _ => ⟨b17, [], [], rfl, hB⟩⟩) h
    refine Lay_spec (k := 0) h rfl (fun p hp => ?_) (by simp [lPuts]) fun r b m _ h => ?_
    · simp only [lPuts, List.mem_cons, List.not_mem_nil, or_false] at hp
      rcases hp with rfl | rfl | rfl
      · exact ⟨by decide, by decide⟩
      · exact ⟨by decide, by decide⟩
      · exact hU
    refine bsel_f rfl ?_
    refine Walk_spec (i := 0) h rfl (by decide) (by decide) ⟨by omega, by omega⟩ ?_
    rw [walkZ_fin, hcore]
    rcases hx with ⟨hb, hx⟩ | ⟨hb, e', e0', e1', hx⟩
    · rw [if_pos (by omega), b1, b2, b6, b63]
      simp only [fin]
      have hm : mayZ true true (!false) aw au af = true := by cases aw <;> cases au <;> cases af <;> rfl
      rw [if_pos hm]
      intro _ h
      simp only [List.set_cons_zero] at h
      refine bsel_f (by simp; omega) ?_
      refine awake_spec h fun _ h => bsel_t rfl (bsel_t rfl (bsel_t rfl (bsel_t ?_ ?_)))
      · have hfz : frameZ x = frame * 512 := by unfold frameZ; omega
        rw [hfz, w64 (n := frame * 512) (by omega) (by omega), w64 (by omega) (by omega)]
        simp
      · simpa using hk _ h.tail.tail.tail.tail
    · rw [if_neg (by omega)]
      intro _ h
      refine bsel_t (by simp; omega) ?_
      refine awake_spec h fun _ h => bsel_t rfl (bsel_t rfl ?_)
      have h9 : (bits .and .i64 (9 + codeZ aw au af) 9 == (9 : Int)) = true := by cases aw <;> cases au <;> cases af <;> decide
      rw [h9]
      exact hk _ h.tail.tail.tail.tail
  · refine bsel_in (fun c => ?_) fun c => ⟨h, .inl ⟨by simp at c; omega, rfl⟩⟩
    simp at c
    refine bsel_f (by simp; omega) ⟨h, .inr ⟨by omega, ?_⟩⟩
    obtain rfl | rfl | rfl | rfl | rfl | rfl | rfl | rfl | rfl : bit = 12 ∨ bit = 13 ∨ bit = 14 ∨ bit = 15 ∨ bit = 16 ∨ bit = 17 ∨ bit = 18 ∨ bit = 19 ∨ bit = 20 := by omega
    · exact ⟨1, by omega, by omega, (bitZ_or 12 4096 rfl (by omega) (by omega) (by omega)).trans (by rw [show bitZ (frame * 2097152 + 135) 12 = false by unfold bitZ; rw [show (2 : Int) ^ 12 = 4096 by rfl]; simp; omega]; simp)⟩
    · exact ⟨2, by omega, by omega, (bitZ_or 13 8192 rfl (by omega) (by omega) (by omega)).trans (by rw [show bitZ (frame * 2097152 + 135) 13 = false by unfold bitZ; rw [show (2 : Int) ^ 13 = 8192 by rfl]; simp; omega]; simp)⟩
    · exact ⟨4, by omega, by omega, (bitZ_or 14 16384 rfl (by omega) (by omega) (by omega)).trans (by rw [show bitZ (frame * 2097152 + 135) 14 = false by unfold bitZ; rw [show (2 : Int) ^ 14 = 16384 by rfl]; simp; omega]; simp)⟩
    · exact ⟨8, by omega, by omega, (bitZ_or 15 32768 rfl (by omega) (by omega) (by omega)).trans (by rw [show bitZ (frame * 2097152 + 135) 15 = false by unfold bitZ; rw [show (2 : Int) ^ 15 = 32768 by rfl]; simp; omega]; simp)⟩
    · exact ⟨16, by omega, by omega, (bitZ_or 16 65536 rfl (by omega) (by omega) (by omega)).trans (by rw [show bitZ (frame * 2097152 + 135) 16 = false by unfold bitZ; rw [show (2 : Int) ^ 16 = 65536 by rfl]; simp; omega]; simp)⟩
    · exact ⟨32, by omega, by omega, (bitZ_or 17 131072 rfl (by omega) (by omega) (by omega)).trans (by rw [show bitZ (frame * 2097152 + 135) 17 = false by unfold bitZ; rw [show (2 : Int) ^ 17 = 131072 by rfl]; simp; omega]; simp)⟩
    · exact ⟨64, by omega, by omega, (bitZ_or 18 262144 rfl (by omega) (by omega) (by omega)).trans (by rw [show bitZ (frame * 2097152 + 135) 18 = false by unfold bitZ; rw [show (2 : Int) ^ 18 = 262144 by rfl]; simp; omega]; simp)⟩
    · exact ⟨128, by omega, by omega, (bitZ_or 19 524288 rfl (by omega) (by omega) (by omega)).trans (by rw [show bitZ (frame * 2097152 + 135) 19 = false by unfold bitZ; rw [show (2 : Int) ^ 19 = 524288 by rfl]; simp; omega]; simp)⟩
    · exact ⟨256, by omega, by omega, (bitZ_or 20 1048576 rfl (by omega) (by omega) (by omega)).trans (by rw [show bitZ (frame * 2097152 + 135) 20 = false by unfold bitZ; rw [show (2 : Int) ^ 20 = 1048576 by rfl]; simp; omega]; simp)⟩
end Go.Dn
