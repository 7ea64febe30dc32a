/- The document's reading of a map. -/
import Derived.Test.YthplpkndhmhahaaLawLonger
namespace Go.Dn

variable {A : AH} {l R : List SP} {P P2 : SP} {k k2 : Nat} {s s2 : Sl} {bs : List Int}
theorem numZ_app : ∀ (a b : List Int), numZ (a ++ b) = numZ a + 256 ^ a.length * numZ b
  | [], b => by simp [numZ]
  | x :: a, b => by
    simp only [List.cons_append, numZ, numZ_app a b, List.length_cons, Int.pow_succ]
    rw [Int.mul_add, ← Int.mul_assoc, Int.mul_comm 256 (256 ^ a.length), Int.add_assoc]
theorem rd_b {v : Nat} {y : Int} (h : Own l A) (e : l[k]? = some P) (hr : Reads P s 1 (bs.map byV)) (hv : bs[v]? = some y) :
    ∃ a, s.a = some a ∧ ∀ K : Int → Prop, K y → aI .u8 (Addr.add a (Int.toNat (v : Int) * 1)) A K := by
  obtain ⟨bb, o, q1, c0⟩ := rd_cell h e hr (j := v) (v := byV y) (by simp [hv])
  exact ⟨_, q1, fun K hK => ⟨_, by rw [add_at, Int.toNat_natCast, Nat.mul_one]; exact c0, hK⟩⟩
theorem rd_b_len (h : Own l A) (e : l[k]? = some P) (hr : Reads P s 1 (bs.map byV)) : s.len = bs.length := by
  have := rd_len h e hr
  simp at this
  omega
theorem pw2 (v : Nat) : (2 : Int) ^ (8 * v) = 256 ^ v := by
  rw [Int.pow_mul]; rfl
theorem number_spec {Q : Int → AH → Prop} (h : Own l A) (e : l[k]? = some P) (hr : Reads P s 1 (bs.map byV)) (hb : ∀ x ∈ bs, 0 ≤ x ∧ x < 256) (hn : bs.length ≤ 8) (hk : Q (numZ bs) A) : demesneref06_number_A s Q A := by
  have hl := rd_b_len h e hr
  unfold demesneref06_number_A
  refine ⟨fun x i m h' => ∃ v : Nat, i = v ∧ m + v = bs.length ∧ x = numZ (bs.take v) ∧ h' = A, ⟨bs.length, 0, rfl, rfl, by simp [numZ], rfl⟩, ?_⟩
  intro x i m A1 ⟨v, e1, e2, e3, e4⟩
  subst e1 e4
  refine bsel_in (fun c => ?_) fun c => ?_
  · have c : (v : Int) < s.len := of_decide_eq_true c
    obtain ⟨y, hy⟩ : ∃ y, bs[v]? = some y := ⟨bs[v]'(by omega), by simp⟩
    obtain ⟨hy0, hy1⟩ := hb y (List.mem_of_getElem? hy)
    obtain ⟨a, q1, r1⟩ := rd_b h e hr hy
    rw [q1]
    refine inB_in (by omega) c (r1 _ ?_)
    have h8 : IntKind.wrap .i64 ((8 : Int) * (v : Int)) = ((8 * v : Nat) : Int) := by rw [w64] <;> omega
    rw [h8]
    refine bsel_f (by simp; omega) ⟨m - 1, by omega, v + 1, by rw [w64] <;> omega, by omega, ?_, rfl⟩
    rw [Int.toNat_natCast, Nat.min_eq_left (by omega), pw2, wu64 hy0 (by omega)]
    have hlen : (bs.take v).length = v := by simp; omega
    have ht : numZ (bs.take (v + 1)) = numZ (bs.take v) + 256 ^ v * y := by
      rw [take_at hy, numZ_app, hlen]
      simp [numZ]
    obtain ⟨b1, b2⟩ := numZ_bd (bs.take (v + 1)) (fun z hz => hb z (List.mem_of_mem_take hz))
    obtain ⟨b3, b4⟩ := numZ_bd (bs.take v) (fun z hz => hb z (List.mem_of_mem_take hz))
    have b5 : numZ (bs.take (v + 1)) < 18446744073709551616 := Int.lt_of_lt_of_le b2 (Int.le_trans (pw256 (m := 8) (by simp; omega)) (by decide))
    have hp : 0 ≤ (256 : Int) ^ v * y := Int.mul_nonneg (Int.pow_nonneg (by omega)) hy0
    rw [Int.mul_comm y, wu64 hp (by omega), ht, e3, wu64 (by omega) (by omega)]
  · have c : ¬(v : Int) < s.len := of_decide_eq_false c
    have hv : v = bs.length := by omega
    subst hv
    rw [List.take_length] at e3
    rw [e3]
    exact hk
/-- A part of a slice. -/
theorem reads_subB {j n : Nat} (hr : Reads P s 1 (bs.map byV)) (hcap : s.len ≤ s.cap) (hj : j + n ≤ bs.length) (hn : 0 < n) :
    Reads P (Sl.mk (if s.cap = j then s.a else Option.map (fun x => Addr.add x (j * 1)) s.a) n (s.cap - j)) 1 (((bs.drop j).take n).map byV) := fun B A hB u => by
  obtain ⟨h1, h2⟩ := hr B A hB u
  have h1 : s.len = bs.length := by simpa using h1
  refine ⟨by simp; omega, fun i v hv => ?_⟩
  have hi : i < n := by
    have := (List.getElem?_eq_some_iff.1 hv).1
    simp at this; omega
  obtain ⟨b, o, q1, q2⟩ := h2 (j + i) v (by
    rw [List.getElem?_map, List.getElem?_take_of_lt hi, List.getElem?_drop] at hv
    rw [List.getElem?_map]; exact hv)
  refine ⟨b, o + j, ?_, by rw [Nat.add_assoc]; exact q2⟩
  show (if s.cap = j then s.a else Option.map (fun x => Addr.add x (j * 1)) s.a) = _
  rw [if_neg (by omega), q1]
  simp [Addr.add]
theorem arsC_app (a c : List Ar) : arsC (a ++ c) = arsC a ++ arsC c := List.flatMap_append
theorem arsC_one : ∀ {L : List Ar} {v : Value}, v ∈ arsC L → v.oneCell' = true := fun {L v} h => by
  obtain ⟨d, _, hd⟩ := List.mem_flatMap.1 h
  simp [areaC] at hd
  rcases hd with rfl | rfl | rfl <;> rfl
theorem push_ar {t : TypeId} {L : List Ar} {x y z : Int} {K : Sl → AP} (h : Own (SlO s 3 (arsC L) :: R) A) (hs : s.a = none → L = []) (hb : L.length ≤ 1000000)
    (hk : ∀ s' A', (s'.a = none → L ++ [(x, y, z)] = []) → Own (SlO s' 3 (arsC (L ++ [(x, y, z)])) :: R) A' → K s' A') :
    newA A (.cells #[.int .u64 x, .int .u64 y, .int .u32 z] t) fun b h2 => apA 3 24 #[.int .u64 0, .int .u64 0, .int .u32 0] t s (Sl.mk (some (Addr.mk b 0 none)) 1 1) h2 K := by
  have hl : s.len = L.length := by
    obtain ⟨B, _, hB⟩ := h.sat
    have := hB.1.1
    rw [arsC_len] at this
    omega
  refine new_C (cs := [.int .u64 x, .int .u64 y, .int .u32 z]) h fun b A1 h1 => ?_
  have h1 := h1.swap
  refine ap_reads (i := 0) h1 rfl (reads_at (n := 1) (sz := 3) (cs := [.int .u64 x, .int .u64 y, .int .u32 z]) (rest := []) rfl) (fun g => nomatch g) (fun g => by rw [hs g]; rfl) rfl (fun v hv => ?_) ⟨by simp only [hl]; omega, by simp only [hl]; omega⟩ fun s' A2 j1 j2 h2 => ?_
  · simp at hv; rcases hv with rfl | rfl | rfl <;> rfl
  · refine hk s' A2 (fun g => ?_) ?_
    · have := j2 g
      simp at this
    · rw [arsC_app]
      exact Own.cons (fun C hC => hC.tail) h2
theorem wu32_small {n : Int} (h0 : 0 ≤ n) (h1 : n < 4294967296) : IntKind.wrap .u32 n = n := by
  show n % 4294967296 = n
  omega
theorem areaB_eq {x n z : Int} (hx : 0 ≤ x) (hx2 : x < 18446744073709551616) (hn : 0 ≤ n) (hn2 : n < 18446744073709551616) : areaB (x, n, z) = !(decide (n > 0) && decide (x > IntKind.wrap .u64 (18446744073709551615 - n))) := by
  unfold areaB
  simp only
  rw [wu64m, wu64 (by omega) (by omega)]
  by_cases h1 : n > 0
  · by_cases h2 : x > 18446744073709551615 - n
    · have : (x + n) % 18446744073709551616 < x := by omega
      simp [h1, h2, this]
    · have : ¬ (x + n) % 18446744073709551616 < x := by omega
      simp [h1, h2, this]
  · have : ¬ (x + n) % 18446744073709551616 < x := by omega
    simp [h1, this]
theorem areaZ_bd (hb : ∀ x ∈ bs, 0 ≤ x ∧ x < 256) (i : Nat) : (0 ≤ (areaZ bs i).1 ∧ (areaZ bs i).1 < 18446744073709551616) ∧ (0 ≤ (areaZ bs i).2.1 ∧ (areaZ bs i).2.1 < 18446744073709551616) ∧ 0 ≤ (areaZ bs i).2.2 ∧ (areaZ bs i).2.2 < 4294967296 := by
  have bd : ∀ o r : Nat, r ≤ 8 → 0 ≤ numZ ((bs.drop o).take r) ∧ numZ ((bs.drop o).take r) < 256 ^ r := fun o r hr => by
    obtain ⟨g1, g2⟩ := numZ_bd ((bs.drop o).take r) (fun y hy => hb y (List.mem_of_mem_drop (List.mem_of_mem_take hy)))
    exact ⟨g1, Int.lt_of_lt_of_le g2 (pw256 (by simp; omega))⟩
  exact ⟨bd (20 * i) 8 (by omega), bd (20 * i + 8) 8 (by omega), bd (20 * i + 16) 4 (by omega)⟩
theorem RefParse_spec {K : Sl → Int → AP} (h : Own l A) (e : l[k]? = some P) (hr : Reads P s 1 (bs.map byV)) (hcap : s.len ≤ s.cap) (hb : ∀ x ∈ bs, 0 ≤ x ∧ x < 256)
    (hk : ∀ s' A', (s'.a = none → (parseP bs).2 = []) → Own (SlO s' 3 (arsC (parseP bs).2) :: l) A' → K s' (parseP bs).1 A') : demesneref06_Parse_A s K A := by
  have hl := rd_b_len h e hr
  unfold demesneref06_Parse_A demesneref06_Parse_G
  refine bsel_in (fun g => ?_) fun g => ?_
  · have g : (s.len : Int) > 1280 := of_decide_eq_true g
    have hp : parseP bs = (4, []) := by unfold parseP; rw [if_pos (by omega)]
    rw [hp] at hk
    exact hk Sl.nil A (fun _ => rfl) h.nilS
  have g : ¬ (s.len : Int) > 1280 := of_decide_eq_false g
  have hm : Int.tmod (Int.ofNat s.len) 20 = ((s.len % 20 : Nat) : Int) := by
    show Int.tmod (s.len : Int) 20 = _
    rw [Int.tmod_eq_emod_of_nonneg (Int.natCast_nonneg _)]
    omega
  rw [hm]
  refine bsel_in (fun g2 => ?_) fun g2 => ?_
  · have g2 : ((s.len % 20 : Nat) : Int) > 0 := of_decide_eq_true g2
    have hp : parseP bs = (14, []) := by unfold parseP; rw [if_neg (by omega), if_pos (by omega)]
    rw [hp] at hk
    exact hk Sl.nil A (fun _ => rfl) h.nilS
  have g2 : ¬ ((s.len % 20 : Nat) : Int) > 0 := of_decide_eq_false g2
  have hq : ∃ q : Nat, bs.length = 20 * q := ⟨bs.length / 20, by omega⟩
  obtain ⟨q, hq⟩ := hq
  have hq2 : bs.length / 20 = q := by omega
  have hpar : parseP bs = if (upto q).all (fun i => areaB (areaZ bs i)) then (0, (upto q).map (areaZ bs)) else (3, []) := by
    unfold parseP; rw [if_neg (by omega), if_neg (by omega), hq2]
  refine new_C (cs := []) h fun b A1 h1 => ?_
  have h1 : Own (SlO ⟨some ⟨b, 0, none⟩, 0, 0⟩ 3 (arsC ((upto 0).map (areaZ bs))) :: l) A1 := h1.imp fun B _ => ⟨⟨by simp [upto, arsC], Nat.le_refl _⟩, .inl rfl⟩
  refine ⟨fun s7 x m h' => ∃ v : Nat, x = ((20 * v : Nat) : Int) ∧ m + v = q ∧ (upto v).all (fun i => areaB (areaZ bs i)) = true ∧ (s7.a = none → (upto v).map (areaZ bs) = []) ∧ Own (SlO s7 3 (arsC ((upto v).map (areaZ bs))) :: l) h',
    ⟨q, 0, rfl, rfl, rfl, fun g => (nomatch g), h1⟩, ?_⟩
  intro s7 x m A2 ⟨v, e1, e2, e3, e4, h2⟩
  subst e1
  refine bsel_in (fun c => ?_) fun c => ?_
  · have c : ((20 * v : Nat) : Int) < s.len := of_decide_eq_true c
    have t8 : IntKind.wrap .i64 (((20 * v : Nat) : Int) + 8) = ((20 * v + 8 : Nat) : Int) := by rw [w64] <;> omega
    have t16 : IntKind.wrap .i64 (((20 * v : Nat) : Int) + 16) = ((20 * v + 16 : Nat) : Int) := by rw [w64] <;> omega
    have t20 : IntKind.wrap .i64 (((20 * v : Nat) : Int) + 20) = ((20 * v + 20 : Nat) : Int) := by rw [w64] <;> omega
    rw [t8, t16, t20]
    simp only [Int.toNat_natCast]
    refine inB_in (by omega) (by omega) (inB_in (by omega) (by omega) (inB_in (by omega) (by omega) (inB_in (by omega) (by omega) (inB_in (by omega) (by omega) (inB_in (by omega) (by omega) ?_)))))
    have n1 : 20 * v + 8 - 20 * v = 8 := by omega
    have n2 : 20 * v + 16 - (20 * v + 8) = 8 := by omega
    have n3 : 20 * v + 20 - (20 * v + 16) = 4 := by omega
    rw [n1, n2, n3]
    have hsub : ∀ o r : Nat, ∀ x ∈ (bs.drop o).take r, 0 ≤ x ∧ x < 256 := fun o r x hx => hb x (List.mem_of_mem_drop (List.mem_of_mem_take hx))
    refine number_spec (k := k + 1) h2 (by simpa using e) (reads_subB hr hcap (j := 20 * v) (n := 8) (by omega) (by omega)) (hsub _ _) (by simp; omega) ?_
    refine number_spec (k := k + 1) h2 (by simpa using e) (reads_subB hr hcap (j := 20 * v + 8) (n := 8) (by omega) (by omega)) (hsub _ _) (by simp; omega) ?_
    refine number_spec (k := k + 1) h2 (by simpa using e) (reads_subB hr hcap (j := 20 * v + 16) (n := 4) (by omega) (by omega)) (hsub _ _) (by simp; omega) ?_
    obtain ⟨⟨a1, a2⟩, ⟨a3, a4⟩, a5, a6⟩ := areaZ_bd hb v
    have hA : areaZ bs v = (numZ ((bs.drop (20 * v)).take 8), numZ ((bs.drop (20 * v + 8)).take 8), numZ ((bs.drop (20 * v + 16)).take 4)) := rfl
    rw [hA] at a1 a2 a3 a4 a5 a6
    simp only at a1 a2 a3 a4 a5 a6
    rw [wu32_small a5 a6]
    have hB := areaB_eq (z := numZ ((bs.drop (20 * v + 16)).take 4)) a1 a2 a3 a4
    rw [← hA] at hB
    have hpush : areaB (areaZ bs v) = true → ∀ s17 A3, (s17.a = none → ((upto v).map (areaZ bs)) ++ [areaZ bs v] = []) → Own (SlO s17 3 (arsC (((upto v).map (areaZ bs)) ++ [areaZ bs v])) :: l) A3 →
        ∃ m5, m5 < m ∧ ∃ v' : Nat, ((20 * v + 20 : Nat) : Int) = ((20 * v' : Nat) : Int) ∧ m5 + v' = q ∧ (upto v').all (fun i => areaB (areaZ bs i)) = true ∧ (s17.a = none → (upto v').map (areaZ bs) = []) ∧ Own (SlO s17 3 (arsC ((upto v').map (areaZ bs))) :: l) A3 := fun hok s17 A3 j1 h3 =>
      ⟨m - 1, by omega, v + 1, by omega, by omega, by rw [upto_succ, List.all_append, e3]; simp [hok], fun g => by rw [upto_succ, List.map_append]; exact j1 g, by rw [upto_succ, List.map_append]; exact h3⟩
    refine bsel_in (fun g3 => bsel_in (fun g4 => ?_) fun g4 => ?_) fun g3 => ?_
    · rw [g3, g4] at hB
      have hp : parseP bs = (3, []) := by
        rw [hpar, if_neg]
        intro hall
        have := List.all_eq_true.1 hall v (by simp [upto]; omega)
        rw [hB] at this
        exact absurd this (by simp)
      rw [hp] at hk
      exact hk Sl.nil A2 (fun _ => rfl) h2.tail.nilS
    · rw [g3, g4] at hB
      exact push_ar h2 e4 (by simp [upto]; omega) (hpush hB)
    · rw [g3] at hB
      exact push_ar h2 e4 (by simp [upto]; omega) (hpush hB)
  · have c : ¬((20 * v : Nat) : Int) < s.len := of_decide_eq_false c
    have hv : v = q := by omega
    subst hv
    have hp : parseP bs = (0, (upto v).map (areaZ bs)) := by rw [hpar, if_pos e3]
    rw [hp] at hk
    exact hk s7 A2 e4 h2
end Go.Dn
