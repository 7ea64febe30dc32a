/- An area's bytes. -/
import Derived.Test.YthplpkndhmhahaaBasics
namespace Go.Dn

variable {A : AH} {l R : List SP} {P P2 : SP} {k k2 : Nat} {s s2 : Sl} {bs : List Int}
/-- So many bytes of a number, the lowest first. -/
def leB : Nat → Int → List Int
  | 0, _ => []
  | k + 1, n => n % 256 :: leB k (n / 256)
theorem leB_len : ∀ (k : Nat) (n : Int), (leB k n).length = k
  | 0, _ => rfl
  | k + 1, n => by simp [leB, leB_len k]
theorem leB_get : ∀ (k : Nat) (n : Int) (i : Nat), i < k → (leB k n)[i]? = some (n / 2 ^ (8 * i) % 256)
  | 0, _, _, h => by omega
  | k + 1, n, 0, _ => by simp [leB]
  | k + 1, n, i + 1, h => by
    have h1 := leB_get k (n / 256) i (by omega)
    have h2 : n / 256 / 2 ^ (8 * i) = n / 2 ^ (8 * (i + 1)) := by
      rw [Int.ediv_ediv_of_nonneg (by omega)]
      congr 1
      rw [Nat.mul_add, Int.pow_add, Int.mul_comm]
      rfl
    rw [h2] at h1
    simpa [leB] using h1
theorem numZ_leB : ∀ (k : Nat) (n : Int), 0 ≤ n → n < 256 ^ k → numZ (leB k n) = n
  | 0, n, h0, h1 => by simp at h1; simp [leB, numZ]; omega
  | k + 1, n, h0, h1 => by
    rw [Int.pow_succ] at h1
    have := numZ_leB k (n / 256) (by omega) (by omega)
    simp only [leB, numZ, this]
    omega
theorem leB_rng : ∀ (k : Nat) (n : Int), ∀ x ∈ leB k n, 0 ≤ x ∧ x < 256
  | 0, _, _, h => nomatch h
  | k + 1, n, x, h => by
    rcases List.mem_cons.1 h with rfl | h
    · omega
    · exact leB_rng k _ x h
def entB (a : Ar) : List Int := leB 8 a.1 ++ leB 8 a.2.1 ++ leB 4 a.2.2
theorem entB_len (a : Ar) : (entB a).length = 20 := by simp [entB, leB_len]
theorem entB_rng (a : Ar) : ∀ x ∈ entB a, 0 ≤ x ∧ x < 256 := fun x h => by
  rcases List.mem_append.1 h with h | h
  · rcases List.mem_append.1 h with h | h
    · exact leB_rng _ _ x h
    · exact leB_rng _ _ x h
  · exact leB_rng _ _ x h
theorem shrB {n : Int} {i c : Nat} (h : 8 * i ≤ c) (hi : i < 8) : IntKind.wrap .u8 (Int.fdiv n (2 ^ (min (Int.toNat (IntKind.wrap .i64 ((8 : Int) * (i : Int)))) c))) = n / 2 ^ (8 * i) % 256 := by
  have h1 : IntKind.wrap .i64 ((8 : Int) * (i : Int)) = ((8 * i : Nat) : Int) := by rw [w64] <;> omega
  rw [h1, Int.toNat_natCast, Nat.min_eq_left h, shr_eq, wu8]
theorem Entry_spec {a : Ar} {Q : Sl → AH → Prop} (h : Own l A) (hk : ∀ s' A', s'.a ≠ none → Own (SlO s' 1 ((entB a).map byV) :: l) A' → Q s' A') : demesnelaw06_Entry_A a.1 a.2.1 a.2.2 Q A := by
  unfold demesnelaw06_Entry_A
  have hmade : (madeCells #[Value.int .u8 0] (20 * 1)) = ((List.replicate 20 (byV 0)).toArray) := by
    have hf : (fun x : Nat => (#[Value.int .u8 0] : Array Value)[x % (#[Value.int .u8 0] : Array Value).size]!) = fun _ => byV 0 := by
      funext x
      simp [Nat.mod_one, byV]
    show Array.map (fun x : Nat => (#[Value.int .u8 0] : Array Value)[x % (#[Value.int .u8 0] : Array Value).size]!) (Array.range (20 * 1)) = _
    rw [hf]
    apply Array.ext'
    simp only [Array.toList_map, Array.toList_range]
    rfl
  rw [hmade]
  refine new_C (cs := List.replicate 20 (byV 0)) h fun b A1 h1 => ?_
  refine ⟨fun x m h' => ∃ (v : Nat) (cs : List Int), x = v ∧ m + v = 8 ∧ cs.length = 20 ∧ (∀ i, i < v → cs[i]? = some (a.1 / 2 ^ (8 * i) % 256) ∧ cs[8 + i]? = some (a.2.1 / 2 ^ (8 * i) % 256)) ∧ Own (At b (cs.map byV) :: l) h',
    ⟨8, 0, List.replicate 20 0, rfl, rfl, rfl, fun i hi => by omega, by simpa using h1⟩, ?_⟩
  intro x m A2 ⟨v, cs, e1, e2, e3, e4, h2⟩
  subst e1
  refine bsel_in (fun c => ?_) fun c => ?_
  · have c : (v : Int) < 8 := of_decide_eq_true c
    have hw : ¬ IntKind.wrap .i64 ((8 : Int) * (v : Int)) < 0 := by rw [w64] <;> omega
    refine bsel_f (by simpa using hw) (inB_in (by omega) (by omega) ?_)
    rw [add_at, Int.toNat_natCast, shrB (by omega) (by omega)]
    refine st_C (i := 0) h2 rfl (by simp [e3]; omega) rfl fun A3 h3 => ?_
    refine bsel_f (by simpa using hw) ?_
    have hw2 : IntKind.wrap .i64 ((8 : Int) + (v : Int)) = ((8 + v : Nat) : Int) := by rw [w64] <;> omega
    rw [hw2, shrB (by omega) (by omega)]
    refine inB_in (by omega) (by omega) ?_
    rw [add_at, Int.toNat_natCast]
    refine st_C (i := 0) h3 rfl (by simp [e3]; omega) rfl fun A4 h4 => ?_
    refine ⟨m - 1, by omega, v + 1, (cs.set v (a.1 / 2 ^ (8 * v) % 256)).set (8 + v) (a.2.1 / 2 ^ (8 * v) % 256), by rw [w64] <;> omega, by omega, by simp [e3], fun i hi => ?_, ?_⟩
    · rcases Nat.lt_or_eq_of_le (Nat.le_of_lt_succ hi) with g | g
      · obtain ⟨f1, f2⟩ := e4 i g
        refine ⟨?_, ?_⟩
        · rw [List.getElem?_set_ne (by omega), List.getElem?_set_ne (by omega)]; exact f1
        · rw [List.getElem?_set_ne (by omega), List.getElem?_set_ne (by omega)]; exact f2
      · subst g
        refine ⟨?_, ?_⟩
        · rw [List.getElem?_set_ne (by omega), List.getElem?_set_self (by omega)]
        · rw [List.getElem?_set_self (by simp; omega)]
    · rw [List.map_set, List.map_set]
      simp only [Nat.zero_add, Nat.mul_one, List.set_cons_zero] at h4
      exact h4
  · have c : ¬ (v : Int) < 8 := of_decide_eq_false c
    have hv : v = 8 := by omega
    subst hv
    refine ⟨fun x m h' => ∃ (v : Nat) (cs : List Int), x = v ∧ m + v = 4 ∧ cs.length = 20 ∧ (∀ i, i < 8 → cs[i]? = some (a.1 / 2 ^ (8 * i) % 256) ∧ cs[8 + i]? = some (a.2.1 / 2 ^ (8 * i) % 256)) ∧ (∀ i, i < v → cs[16 + i]? = some (a.2.2 / 2 ^ (8 * i) % 256)) ∧ Own (At b (cs.map byV) :: l) h',
      ⟨4, 0, cs, rfl, rfl, e3, e4, fun i hi => by omega, h2⟩, ?_⟩
    intro x m2 A3 ⟨v, cs, e5, e6, e7, e8, e9, h3⟩
    subst e5
    refine bsel_in (fun c => ?_) fun c => ?_
    · have c : (v : Int) < 4 := of_decide_eq_true c
      have hw : ¬ IntKind.wrap .i64 ((8 : Int) * (v : Int)) < 0 := by rw [w64] <;> omega
      refine bsel_f (by simpa using hw) ?_
      have hw2 : IntKind.wrap .i64 ((16 : Int) + (v : Int)) = ((16 + v : Nat) : Int) := by rw [w64] <;> omega
      rw [hw2, shrB (by omega) (by omega)]
      refine inB_in (by omega) (by omega) ?_
      rw [add_at, Int.toNat_natCast]
      refine st_C (i := 0) h3 rfl (by simp [e7]; omega) rfl fun A4 h4 => ?_
      refine ⟨m2 - 1, by omega, v + 1, cs.set (16 + v) (a.2.2 / 2 ^ (8 * v) % 256), by rw [w64] <;> omega, by omega, by simp [e7], fun i hi => ?_, fun i hi => ?_, ?_⟩
      · obtain ⟨f1, f2⟩ := e8 i hi
        rw [List.getElem?_set_ne (by omega), List.getElem?_set_ne (by omega)]
        exact ⟨f1, f2⟩
      · rcases Nat.lt_or_eq_of_le (Nat.le_of_lt_succ hi) with g | g
        · rw [List.getElem?_set_ne (by omega)]; exact e9 i g
        · subst g
          rw [List.getElem?_set_self (by omega)]
      · rw [List.map_set]
        simp only [Nat.zero_add, Nat.mul_one, List.set_cons_zero] at h4
        exact h4
    · have c : ¬ (v : Int) < 4 := of_decide_eq_false c
      have hv : v = 4 := by omega
      subst hv
      have hcs : cs = entB a := by
        apply List.ext_getElem?
        intro j
        by_cases j1 : j < 8
        · rw [(e8 j j1).1]
          unfold entB
          rw [List.append_assoc, List.getElem?_append_left (by rw [leB_len]; exact j1), leB_get 8 _ j j1]
        · by_cases j2 : j < 16
          · have := (e8 (j - 8) (by omega)).2
            rw [show 8 + (j - 8) = j by omega] at this
            rw [this]
            unfold entB
            rw [List.getElem?_append_left (by simp [leB_len]; omega), List.getElem?_append_right (by rw [leB_len]; omega), leB_len, leB_get 8 _ (j - 8) (by omega)]
          · by_cases j3 : j < 20
            · have := e9 (j - 16) (by omega)
              rw [show 16 + (j - 16) = j by omega] at this
              rw [this]
              unfold entB
              rw [List.getElem?_append_right (by simp [leB_len]; omega), List.length_append, leB_len, leB_len, leB_get 4 _ (j - 16) (by omega)]
            · rw [List.getElem?_eq_none (by omega), List.getElem?_eq_none (by rw [entB_len]; omega)]
      rw [hcs] at h3
      refine hk _ A3 (fun q => nomatch q) (Own.imp (fun B hB => ⟨⟨by simp [entB_len], Nat.le_refl _⟩, .inr ⟨b, [], rfl, by simp [entB_len], by simpa using hB⟩⟩) h3)
end Go.Dn
