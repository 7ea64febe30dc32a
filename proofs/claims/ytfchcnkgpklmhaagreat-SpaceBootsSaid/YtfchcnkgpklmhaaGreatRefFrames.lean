/- What the proof stands on: RefParse, Ends, RefLess, RefFrames. -/
import Derived.Test.YtfchcnkgpklmhaaGreatLawKernel
/- The document's reading of a map. -/
namespace Go.Dn

variable {A : AH} {l R : List SP} {P P2 : SP} {k k2 : Nat} {s s2 : Sl} {bs : List Int}
theorem numZ_app : ∀ (a b : List Int), numZ (a ++ b) = numZ a + 256 ^ a.length * numZ b
  | [], b => by simp [numZ]
  | x :: a, b => by
    simp only [List.cons_append, numZ, numZ_app a b, List.length_cons, Int.pow_succ]
    rw [Int.mul_add, ← Int.mul_assoc, Int.mul_comm 256 (256 ^ a.length), Int.add_assoc]
theorem rd_b {v : Nat} {y : Int} (h : Own l A) (e : l[k]? = some P) (hr : Reads P s 1 (bs.map byV)) (hv : bs[v]? = some y) :
    ∃ a, s.a = some a ∧ ∀ K : Int → Prop, K y → aI .u8 (Addr.add a (Int.toNat (v : Int) * 1)) A K := by
  obtain ⟨bb, o, q1, c0⟩ := rd_cell h e hr (j := v) (v := byV y) (by simp [hv])
  exact ⟨_, q1, fun K hK => ⟨_, by rw [add_at, Int.toNat_natCast, Nat.mul_one]; exact c0, hK⟩⟩
theorem rd_b_len (h : Own l A) (e : l[k]? = some P) (hr : Reads P s 1 (bs.map byV)) : s.len = bs.length := by
  have := rd_len h e hr
  simp at this
  omega
theorem pw2 (v : Nat) : (2 : Int) ^ (8 * v) = 256 ^ v := by
  rw [Int.pow_mul]; rfl
theorem number_spec {Q : Int → AH → Prop} (h : Own l A) (e : l[k]? = some P) (hr : Reads P s 1 (bs.map byV)) (hb : ∀ x ∈ bs, 0 ≤ x ∧ x < 256) (hn : bs.length ≤ 8) (hk : Q (numZ bs) A) : demesneref06_number_A s Q A := by
  have hl := rd_b_len h e hr
  unfold demesneref06_number_A
  refine ⟨fun x i m h' => ∃ v : Nat, i = v ∧ m + v = bs.length ∧ x = numZ (bs.take v) ∧ h' = A, ⟨bs.length, 0, rfl, rfl, by simp [numZ], rfl⟩, ?_⟩
  intro x i m A1 ⟨v, e1, e2, e3, e4⟩
  subst e1 e4
  refine bsel_in (fun c => ?_) fun c => ?_
  · have c : (v : Int) < s.len := of_decide_eq_true c
    obtain ⟨y, hy⟩ : ∃ y, bs[v]? = some y := ⟨bs[v]'(by omega), by simp⟩
    obtain ⟨hy0, hy1⟩ := hb y (List.mem_of_getElem? hy)
    obtain ⟨a, q1, r1⟩ := rd_b h e hr hy
    rw [q1]
    refine inB_in (by omega) c (r1 _ ?_)
    have h8 : IntKind.wrap .i64 ((8 : Int) * (v : Int)) = ((8 * v : Nat) : Int) := by rw [w64] <;> omega
    rw [h8]
    refine bsel_f (by simp; omega) ⟨m - 1, by omega, v + 1, by rw [w64] <;> omega, by omega, ?_, rfl⟩
    rw [Int.toNat_natCast, Nat.min_eq_left (by omega), pw2, wu64 hy0 (by omega)]
    have hlen : (bs.take v).length = v := by simp; omega
    have ht : numZ (bs.take (v + 1)) = numZ (bs.take v) + 256 ^ v * y := by
      rw [take_at hy, numZ_app, hlen]
      simp [numZ]
    obtain ⟨b1, b2⟩ := numZ_bd (bs.take (v + 1)) (fun z hz => hb z (List.mem_of_mem_take hz))
    obtain ⟨b3, b4⟩ := numZ_bd (bs.take v) (fun z hz => hb z (List.mem_of_mem_take hz))
    have b5 : numZ (bs.take (v + 1)) < 18446744073709551616 := Int.lt_of_lt_of_le b2 (Int.le_trans (pw256 (m := 8) (by simp; omega)) (by decide))
    have hp : 0 ≤ (256 : Int) ^ v * y := Int.mul_nonneg (Int.pow_nonneg (by omega)) hy0
    rw [Int.mul_comm y, wu64 hp (by omega), ht, e3, wu64 (by omega) (by omega)]
  · have c : ¬(v : Int) < s.len := of_decide_eq_false c
    have hv : v = bs.length := by omega
    subst hv
    rw [List.take_length] at e3
    rw [e3]
    exact hk
/-- A part of a slice. -/
theorem reads_subB {j n : Nat} (hr : Reads P s 1 (bs.map byV)) (hcap : s.len ≤ s.cap) (hj : j + n ≤ bs.length) (hn : 0 < n) :
    Reads P (Sl.mk (if s.cap = j then s.a else Option.map (fun x => Addr.add x (j * 1)) s.a) n (s.cap - j)) 1 (((bs.drop j).take n).map byV) := fun B A hB u => by
  obtain ⟨h1, h2⟩ := hr B A hB u
  have h1 : s.len = bs.length := by simpa using h1
  refine ⟨by simp; omega, fun i v hv => ?_⟩
  have hi : i < n := by
    have := (List.getElem?_eq_some_iff.1 hv).1
    simp at this; omega
  obtain ⟨b, o, q1, q2⟩ := h2 (j + i) v (by
    rw [List.getElem?_map, List.getElem?_take_of_lt hi, List.getElem?_drop] at hv
    rw [List.getElem?_map]; exact hv)
  refine ⟨b, o + j, ?_, by rw [Nat.add_assoc]; exact q2⟩
  show (if s.cap = j then s.a else Option.map (fun x => Addr.add x (j * 1)) s.a) = _
  rw [if_neg (by omega), q1]
  simp [Addr.add]
theorem arsC_app (a c : List Ar) : arsC (a ++ c) = arsC a ++ arsC c := List.flatMap_append
theorem arsC_one : ∀ {L : List Ar} {v : Value}, v ∈ arsC L → v.oneCell' = true := fun {L v} h => by
  obtain ⟨d, _, hd⟩ := List.mem_flatMap.1 h
  simp [areaC] at hd
  rcases hd with rfl | rfl | rfl <;> rfl
theorem push_ar {t : TypeId} {L : List Ar} {x y z : Int} {K : Sl → AP} (h : Own (SlO s 3 (arsC L) :: R) A) (hs : s.a = none → L = []) (hb : L.length ≤ 1000000)
    (hk : ∀ s' A', (s'.a = none → L ++ [(x, y, z)] = []) → Own (SlO s' 3 (arsC (L ++ [(x, y, z)])) :: R) A' → K s' A') :
    newA A (.cells #[.int .u64 x, .int .u64 y, .int .u32 z] t) fun b h2 => apA 3 24 #[.int .u64 0, .int .u64 0, .int .u32 0] t s (Sl.mk (some (Addr.mk b 0 none)) 1 1) h2 K := by
  have hl : s.len = L.length := by
    obtain ⟨B, _, hB⟩ := h.sat
    have := hB.1.1
    rw [arsC_len] at this
    omega
  refine new_C (cs := [.int .u64 x, .int .u64 y, .int .u32 z]) h fun b A1 h1 => ?_
  have h1 := h1.swap
  refine ap_reads (i := 0) h1 rfl (reads_at (n := 1) (sz := 3) (cs := [.int .u64 x, .int .u64 y, .int .u32 z]) (rest := []) rfl) (fun g => nomatch g) (fun g => by rw [hs g]; rfl) rfl (fun v hv => ?_) ⟨by simp only [hl]; omega, by simp only [hl]; omega⟩ fun s' A2 j1 j2 h2 => ?_
  · simp at hv; rcases hv with rfl | rfl | rfl <;> rfl
  · refine hk s' A2 (fun g => ?_) ?_
    · have := j2 g
      simp at this
    · rw [arsC_app]
      exact Own.cons (fun C hC => hC.tail) h2
theorem wu32_small {n : Int} (h0 : 0 ≤ n) (h1 : n < 4294967296) : IntKind.wrap .u32 n = n := by
  show n % 4294967296 = n
  omega
theorem areaB_eq {x n z : Int} (hx : 0 ≤ x) (hx2 : x < 18446744073709551616) (hn : 0 ≤ n) (hn2 : n < 18446744073709551616) : areaB (x, n, z) = !(decide (n > 0) && decide (x > IntKind.wrap .u64 (18446744073709551615 - n))) := by
  unfold areaB
  simp only
  rw [wu64m, wu64 (by omega) (by omega)]
  by_cases h1 : n > 0
  · by_cases h2 : x > 18446744073709551615 - n
    · have : (x + n) % 18446744073709551616 < x := by omega
      simp [h1, h2, this]
    · have : ¬ (x + n) % 18446744073709551616 < x := by omega
      simp [h1, h2, this]
  · have : ¬ (x + n) % 18446744073709551616 < x := by omega
    simp [h1, this]
theorem areaZ_bd (hb : ∀ x ∈ bs, 0 ≤ x ∧ x < 256) (i : Nat) : (0 ≤ (areaZ bs i).1 ∧ (areaZ bs i).1 < 18446744073709551616) ∧ (0 ≤ (areaZ bs i).2.1 ∧ (areaZ bs i).2.1 < 18446744073709551616) ∧ 0 ≤ (areaZ bs i).2.2 ∧ (areaZ bs i).2.2 < 4294967296 := by
  have bd : ∀ o r : Nat, r ≤ 8 → 0 ≤ numZ ((bs.drop o).take r) ∧ numZ ((bs.drop o).take r) < 256 ^ r := fun o r hr => by
    obtain ⟨g1, g2⟩ := numZ_bd ((bs.drop o).take r) (fun y hy => hb y (List.mem_of_mem_drop (List.mem_of_mem_take hy)))
    exact ⟨g1, Int.lt_of_lt_of_le g2 (pw256 (by simp; omega))⟩
  exact ⟨bd (20 * i) 8 (by omega), bd (20 * i + 8) 8 (by omega), bd (20 * i + 16) 4 (by omega)⟩
theorem RefParse_spec {K : Sl → Int → AP} (h : Own l A) (e : l[k]? = some P) (hr : Reads P s 1 (bs.map byV)) (hcap : s.len ≤ s.cap) (hb : ∀ x ∈ bs, 0 ≤ x ∧ x < 256)
    (hk : ∀ s' A', (s'.a = none → (parseP bs).2 = []) → Own (SlO s' 3 (arsC (parseP bs).2) :: l) A' → K s' (parseP bs).1 A') : demesneref06_Parse_A s K A := by
  have hl := rd_b_len h e hr
  unfold demesneref06_Parse_A demesneref06_Parse_G
  refine bsel_in (fun g => ?_) fun g => ?_
  · have g : (s.len : Int) > 1280 := of_decide_eq_true g
    have hp : parseP bs = (4, []) := by unfold parseP; rw [if_pos (by omega)]
    rw [hp] at hk
    exact hk Sl.nil A (fun _ => rfl) h.nilS
  have g : ¬ (s.len : Int) > 1280 := of_decide_eq_false g
  have hm : Int.tmod (Int.ofNat s.len) 20 = ((s.len % 20 : Nat) : Int) := by
    show Int.tmod (s.len : Int) 20 = _
    rw [Int.tmod_eq_emod_of_nonneg (Int.natCast_nonneg _)]
    omega
  rw [hm]
  refine bsel_in (fun g2 => ?_) fun g2 => ?_
  · have g2 : ((s.len % 20 : Nat) : Int) > 0 := of_decide_eq_true g2
    have hp : parseP bs = (14, []) := by unfold parseP; rw [if_neg (by omega), if_pos (by omega)]
    rw [hp] at hk
    exact hk Sl.nil A (fun _ => rfl) h.nilS
  have g2 : ¬ ((s.len % 20 : Nat) : Int) > 0 := of_decide_eq_false g2
  have hq : ∃ q : Nat, bs.length = 20 * q := ⟨bs.length / 20, by omega⟩
  obtain ⟨q, hq⟩ := hq
  have hq2 : bs.length / 20 = q := by omega
  have hpar : parseP bs = if (upto q).all (fun i => areaB (areaZ bs i)) then (0, (upto q).map (areaZ bs)) else (3, []) := by
    unfold parseP; rw [if_neg (by omega), if_neg (by omega), hq2]
  refine new_C (cs := []) h fun b A1 h1 => ?_
  have h1 : Own (SlO ⟨some ⟨b, 0, none⟩, 0, 0⟩ 3 (arsC ((upto 0).map (areaZ bs))) :: l) A1 := h1.imp fun B _ => ⟨⟨by simp [upto, arsC], Nat.le_refl _⟩, .inl rfl⟩
  refine ⟨fun s7 x m h' => ∃ v : Nat, x = ((20 * v : Nat) : Int) ∧ m + v = q ∧ (upto v).all (fun i => areaB (areaZ bs i)) = true ∧ (s7.a = none → (upto v).map (areaZ bs) = []) ∧ Own (SlO s7 3 (arsC ((upto v).map (areaZ bs))) :: l) h',
    ⟨q, 0, rfl, rfl, rfl, fun g => (nomatch g), h1⟩, ?_⟩
  intro s7 x m A2 ⟨v, e1, e2, e3, e4, h2⟩
  subst e1
  refine bsel_in (fun c => ?_) fun c => ?_
  · have c : ((20 * v : Nat) : Int) < s.len := of_decide_eq_true c
    have t8 : IntKind.wrap .i64 (((20 * v : Nat) : Int) + 8) = ((20 * v + 8 : Nat) : Int) := by rw [w64] <;> omega
    have t16 : IntKind.wrap .i64 (((20 * v : Nat) : Int) + 16) = ((20 * v + 16 : Nat) : Int) := by rw [w64] <;> omega
    have t20 : IntKind.wrap .i64 (((20 * v : Nat) : Int) + 20) = ((20 * v + 20 : Nat) : Int) := by rw [w64] <;> omega
    rw [t8, t16, t20]
    simp only [Int.toNat_natCast]
    refine inB_in (by omega) (by omega) (inB_in (by omega) (by omega) (inB_in (by omega) (by omega) (inB_in (by omega) (by omega) (inB_in (by omega) (by omega) (inB_in (by omega) (by omega) ?_)))))
    have n1 : 20 * v + 8 - 20 * v = 8 := by omega
    have n2 : 20 * v + 16 - (20 * v + 8) = 8 := by omega
    have n3 : 20 * v + 20 - (20 * v + 16) = 4 := by omega
    rw [n1, n2, n3]
    have hsub : ∀ o r : Nat, ∀ x ∈ (bs.drop o).take r, 0 ≤ x ∧ x < 256 := fun o r x hx => hb x (List.mem_of_mem_drop (List.mem_of_mem_take hx))
    refine number_spec (k := k + 1) h2 (by simpa using e) (reads_subB hr hcap (j := 20 * v) (n := 8) (by omega) (by omega)) (hsub _ _) (by simp; omega) ?_
    refine number_spec (k := k + 1) h2 (by simpa using e) (reads_subB hr hcap (j := 20 * v + 8) (n := 8) (by omega) (by omega)) (hsub _ _) (by simp; omega) ?_
    refine number_spec (k := k + 1) h2 (by simpa using e) (reads_subB hr hcap (j := 20 * v + 16) (n := 4) (by omega) (by omega)) (hsub _ _) (by simp; omega) ?_
    obtain ⟨⟨a1, a2⟩, ⟨a3, a4⟩, a5, a6⟩ := areaZ_bd hb v
    have hA : areaZ bs v = (numZ ((bs.drop (20 * v)).take 8), numZ ((bs.drop (20 * v + 8)).take 8), numZ ((bs.drop (20 * v + 16)).take 4)) := rfl
    rw [hA] at a1 a2 a3 a4 a5 a6
    simp only at a1 a2 a3 a4 a5 a6
    rw [wu32_small a5 a6]
    have hB := areaB_eq (z := numZ ((bs.drop (20 * v + 16)).take 4)) a1 a2 a3 a4
    rw [← hA] at hB
    have hpush : areaB (areaZ bs v) = true → ∀ s17 A3, (s17.a = none → ((upto v).map (areaZ bs)) ++ [areaZ bs v] = []) → Own (SlO s17 3 (arsC (((upto v).map (areaZ bs)) ++ [areaZ bs v])) :: l) A3 →
        ∃ m5, m5 < m ∧ ∃ v' : Nat, ((20 * v + 20 : Nat) : Int) = ((20 * v' : Nat) : Int) ∧ m5 + v' = q ∧ (upto v').all (fun i => areaB (areaZ bs i)) = true ∧ (s17.a = none → (upto v').map (areaZ bs) = []) ∧ Own (SlO s17 3 (arsC ((upto v').map (areaZ bs))) :: l) A3 := fun hok s17 A3 j1 h3 =>
      ⟨m - 1, by omega, v + 1, by omega, by omega, by rw [upto_succ, List.all_append, e3]; simp [hok], fun g => by rw [upto_succ, List.map_append]; exact j1 g, by rw [upto_succ, List.map_append]; exact h3⟩
    refine bsel_in (fun g3 => bsel_in (fun g4 => ?_) fun g4 => ?_) fun g3 => ?_
    · rw [g3, g4] at hB
      have hp : parseP bs = (3, []) := by
        rw [hpar, if_neg]
        intro hall
        have := List.all_eq_true.1 hall v (by simp [upto]; omega)
        rw [hB] at this
        exact absurd this (by simp)
      rw [hp] at hk
      exact hk Sl.nil A2 (fun _ => rfl) h2.tail.nilS
    · rw [g3, g4] at hB
      exact push_ar h2 e4 (by simp [upto]; omega) (hpush hB)
    · rw [g3] at hB
      exact push_ar h2 e4 (by simp [upto]; omega) (hpush hB)
  · have c : ¬((20 * v : Nat) : Int) < s.len := of_decide_eq_false c
    have hv : v = q := by omega
    subst hv
    have hp : parseP bs = (0, (upto v).map (areaZ bs)) := by rw [hpar, if_pos e3]
    rw [hp] at hk
    exact hk s7 A2 e4 h2
end Go.Dn
/- The document's ends of ranges. -/
namespace Go.Dn

variable {A : AH} {l R : List SP} {P P2 : SP} {k k2 : Nat} {s s2 : Sl} {L AW : List Rg} {es : List Int}
def ints (L : List Int) : List Value := L.map (Value.int .i64)
theorem ints_len (L : List Int) : (ints L).length = L.length := by simp [ints]
theorem ints_nil {L : List Int} (h : ints L = []) : L = [] := by simpa [ints] using h
theorem ints_app (a b : List Int) : ints (a ++ b) = ints a ++ ints b := by simp [ints]
theorem Own.lenI (h : Own (SlO s 1 (ints es) :: R) A) : s.len = es.length := by
  obtain ⟨B, _, hB⟩ := h.sat
  have := hB.1.1
  rw [ints_len] at this
  omega
theorem rd_i {v : Nat} {y : Int} (h : Own l A) (e : l[k]? = some P) (hr : Reads P s 1 (ints es)) (hv : es[v]? = some y) :
    ∃ a, s.a = some a ∧ ∀ K : Int → Prop, K y → aI .i64 (Addr.add a (Int.toNat (v : Int) * 1)) A K := by
  obtain ⟨bb, o, q1, c0⟩ := rd_cell h e hr (j := v) (v := .int .i64 y) (by simp [ints, hv])
  exact ⟨_, q1, fun K hK => ⟨_, by rw [add_at, Int.toNat_natCast, Nat.mul_one]; exact c0, hK⟩⟩
theorem push_i {t : TypeId} {x : Int} {K : Sl → AP} (h : Own (SlO s 1 (ints es) :: R) A) (hs : s.a = none → es = []) (hb : es.length ≤ 1000000)
    (hk : ∀ s' A', s'.a ≠ none → Own (SlO s' 1 (ints (es ++ [x])) :: R) A' → K s' A') :
    newA A (.cells #[.int .i64 x] t) fun b h2 => apA 1 8 #[.int .i64 0] t s (Sl.mk (some (Addr.mk b 0 none)) 1 1) h2 K := by
  have hl := h.lenI
  refine new_C (cs := [.int .i64 x]) h fun b A1 h1 => ?_
  refine ap_reads (i := 0) h1.swap rfl (reads_at (n := 1) (sz := 1) (cs := [.int .i64 x]) (rest := []) rfl) (fun g => nomatch g) (fun g => by rw [hs g]; rfl) rfl (fun v hv => ?_) ⟨by simp only [hl]; omega, by simp only [hl]; omega⟩ fun s' A2 j1 j2 h2 => ?_
  · simp at hv; rw [hv]; rfl
  · refine hk s' A2 (fun g => ?_) ?_
    · have := j2 g
      simp at this
    · rw [ints_app]
      exact Own.cons (fun C hC => hC.tail) h2
theorem EndsOf.congr {S S' : Int → Prop} (h : EndsOf S es) (hs : ∀ z, S z ↔ S' z) : EndsOf S' es := ⟨h.1, fun z => (h.2 z).trans (hs z)⟩
def endS (rs : List Rg) (z : Int) : Prop := ∃ r ∈ rs, z = r.1 ∨ z = r.2
theorem endS_push {rs : List Rg} {r : Rg} {z : Int} : endS (rs ++ [r]) z ↔ (endS rs z ∨ z = r.1) ∨ z = r.2 := by
  unfold endS
  constructor
  · rintro ⟨q, hq, h⟩
    rcases List.mem_append.1 hq with g | g
    · exact .inl (.inl ⟨q, g, h⟩)
    · rw [List.mem_singleton.1 g] at h
      rcases h with h | h
      · exact .inl (.inr h)
      · exact .inr h
  · rintro ((⟨q, hq, h⟩ | h) | h)
    · exact ⟨q, by simp [hq], h⟩
    · exact ⟨r, by simp, .inl h⟩
    · exact ⟨r, by simp, .inr h⟩
set_option maxHeartbeats 1000000 in
theorem Ends_spec {Q : Sl → AH → Prop} (h : Own l A) (e : l[k]? = some P) (hr : Reads P s 2 (rgs L)) (hb : L.length ≤ 200) (e2 : l[k2]? = some P2) (hr2 : Reads P2 s2 2 (rgs AW)) (hb2 : AW.length ≤ 200)
    (hk : ∀ es, EndsOf (endS (L ++ AW)) es → es.length ≤ 800 → ∀ s' A', s'.a ≠ none → Own (SlO s' 1 (ints es) :: l) A' → Q s' A') : demesneref06_Ends_A s s2 Q A := by
  unfold demesneref06_Ends_A
  refine new_C (cs := []) h fun b1 A1 h1 => ?_
  have h1 : Own (SlO ⟨some ⟨b1, 0, none⟩, 0, 0⟩ 1 (ints []) :: l) A1 := h1.imp fun B _ => ⟨⟨by simp [ints], Nat.le_refl _⟩, .inl rfl⟩
  refine new_C (cs := [.slice s.a s.len s.cap, .slice s2.a s2.len s2.cap]) h1 fun b3 A2 h2 => ?_
  have h2 := h2.swap
  obtain ⟨two, htwo⟩ : ∃ two : Nat → List Rg, two = fun i => if i = 0 then [] else if i = 1 then L else L ++ AW := ⟨_, rfl⟩
  refine ⟨fun o x m h' => ∃ (v : Nat) (es : List Int), x = v ∧ v ≤ 2 ∧ m + v = 2 ∧ EndsOf (endS (two v)) es ∧ es.length ≤ 2 * (two v).length ∧ o.a ≠ none ∧ Own (SlO o 1 (ints es) :: At b3 [.slice s.a s.len s.cap, .slice s2.a s2.len s2.cap] :: l) h',
    ⟨2, 0, [], rfl, by omega, rfl, ⟨List.Pairwise.nil, fun z => by subst htwo; simp [endS]⟩, by simp, fun g => (nomatch g), h2⟩, ?_⟩
  intro o x m A3 ⟨v, es, e3, e4, e5, hE, hlen, ho, h3⟩
  subst e3
  refine bsel_in (fun c => ?_) fun c => ?_
  · have c : (v : Int) < 2 := of_decide_eq_true c
    refine inB_in (by omega) (by omega) ?_
    rw [add_at, Int.toNat_natCast, Nat.mul_one, Nat.zero_add]
    obtain ⟨sv, cur, kc, Pc, hcell, ec, hrc, hbc, htw⟩ : ∃ (sv : Sl) (cur : List Rg) (kc : Nat) (Pc : SP), ([.slice s.a s.len s.cap, .slice s2.a s2.len s2.cap] : List Value)[v]? = some (.slice sv.a sv.len sv.cap) ∧ l[kc]? = some Pc ∧ Reads Pc sv 2 (rgs cur) ∧ cur.length ≤ 200 ∧ two (v + 1) = two v ++ cur := by
      subst htwo
      rcases Nat.lt_or_ge v 1 with g | g
      · obtain rfl : v = 0 := by omega
        exact ⟨s, L, k, P, rfl, e, hr, hb, by simp⟩
      · obtain rfl : v = 1 := by omega
        exact ⟨s2, AW, k2, P2, rfl, e2, hr2, hb2, by simp⟩
    refine ld_S (i := 1) h3 rfl hcell ?_
    have hlc := fun (A' : AH) (R0 : SP) (R1 : SP) (h' : Own (R0 :: R1 :: l) A') => rd_rg_len (k := kc + 2) h' (by simpa using ec) hrc
    have hlc3 := hlc _ _ _ h3
    have htl : (two v).length ≤ 200 := by
      subst htwo
      rcases Nat.lt_or_ge v 1 with g | g
      · obtain rfl : v = 0 := by omega
        simp
      · obtain rfl : v = 1 := by omega
        exact hb
    refine ⟨fun o2 x m' h' => ∃ (w : Nat) (es : List Int), x = w ∧ w ≤ cur.length ∧ m' + w = cur.length ∧ EndsOf (endS (two v ++ cur.take w)) es ∧ es.length ≤ 2 * (two v).length + 2 * w ∧ o2.a ≠ none ∧ Own (SlO o2 1 (ints es) :: At b3 [.slice s.a s.len s.cap, .slice s2.a s2.len s2.cap] :: l) h',
      ⟨cur.length, 0, es, rfl, by omega, by omega, by simpa using hE, by omega, ho, h3⟩, ?_⟩
    intro o2 x m' A4 ⟨w, es, e6, e7, e8, hE, hlen, ho, h4⟩
    subst e6
    refine bsel_in (fun c2 => ?_) fun c2 => ?_
    · have c2 : (w : Int) < sv.len := of_decide_eq_true c2
      obtain ⟨r, hrv⟩ : ∃ r, cur[w]? = some r := ⟨cur[w]'(by omega), by simp⟩
      obtain ⟨a, q1, r1, r2⟩ := rd_rg (k := kc + 2) h4 (by simpa using ec) hrc hrv
      dsimp only
      rw [q1]
      refine inB_in (by omega) c2 (r1 _ (r2 _ ?_))
      refine new_C (cs := [.int .i64 r.1, .int .i64 r.2]) h4 fun b21 A5 h5 => ?_
      have h5 := h5.swap
      obtain ⟨ste, hste⟩ : ∃ ste : Nat → Int → Prop, ste = fun i z => if i = 0 then endS (two v ++ cur.take w) z else if i = 1 then endS (two v ++ cur.take w) z ∨ z = r.1 else (endS (two v ++ cur.take w) z ∨ z = r.1) ∨ z = r.2 := ⟨_, rfl⟩
      refine ⟨fun o3 x m'' h' => ∃ (j : Nat) (es : List Int), x = j ∧ j ≤ 2 ∧ m'' + j = 2 ∧ EndsOf (ste j) es ∧ es.length ≤ 2 * (two v).length + 2 * w + j ∧ o3.a ≠ none ∧ Own (SlO o3 1 (ints es) :: At b21 [.int .i64 r.1, .int .i64 r.2] :: At b3 [.slice s.a s.len s.cap, .slice s2.a s2.len s2.cap] :: l) h',
        ⟨2, 0, es, rfl, by omega, rfl, by subst hste; exact hE, by omega, ho, h5⟩, ?_⟩
      intro o3 x m'' A6 ⟨j, es, e9, e10, e11, hE, hlen, ho, h6⟩
      subst e9
      have hl6 := h6.lenI
      refine bsel_in (fun c3 => ?_) fun c3 => ?_
      · have c3 : (j : Int) < 2 := of_decide_eq_true c3
        refine inB_in (by omega) (by omega) ?_
        rw [add_at, Int.toNat_natCast, Nat.mul_one, Nat.zero_add]
        obtain ⟨n, hn, hst⟩ : ∃ n : Int, ([.int .i64 r.1, .int .i64 r.2] : List Value)[j]? = some (.int .i64 n) ∧ ∀ z, ste (j + 1) z ↔ ste j z ∨ z = n := by
          subst hste
          rcases Nat.lt_or_ge j 1 with g | g
          · obtain rfl : j = 0 := by omega
            exact ⟨r.1, rfl, fun z => by simp⟩
          · obtain rfl : j = 1 := by omega
            exact ⟨r.2, rfl, fun z => by simp⟩
        refine ld_I (i := 1) h6 rfl hn ?_
        refine new_C (cs := []) h6 fun b30 A7 h7 => ?_
        have h7 : Own (SlO ⟨some ⟨b30, 0, none⟩, 0, 0⟩ 1 (ints []) :: SlO o3 1 (ints es) :: At b21 [.int .i64 r.1, .int .i64 r.2] :: At b3 [.slice s.a s.len s.cap, .slice s2.a s2.len s2.cap] :: l) A7 := h7.imp fun B _ => ⟨⟨by simp [ints], Nat.le_refl _⟩, .inl rfl⟩
        refine ⟨fun nx dn x mm h' => ∃ (u : Nat) (next : List Int), x = u ∧ u ≤ es.length ∧ mm + u = es.length ∧ InsI n (es.take u) next dn ∧ next.length ≤ u + 1 ∧ (nx.a ≠ none) ∧ Own (SlO nx 1 (ints next) :: SlO o3 1 (ints es) :: At b21 [.int .i64 r.1, .int .i64 r.2] :: At b3 [.slice s.a s.len s.cap, .slice s2.a s2.len s2.cap] :: l) h',
          ⟨es.length, 0, [], rfl, by omega, by omega, InsI.nil, by simp, fun g => (nomatch g), h7⟩, ?_⟩
        intro nx dn x mm A8 ⟨u, next, f1, f2, f3, hI, hnl, hnx, h8⟩
        subst f1
        refine bsel_in (fun c4 => ?_) fun c4 => ?_
        · have c4 : (u : Int) < o3.len := of_decide_eq_true c4
          obtain ⟨y, hy⟩ : ∃ y, es[u]? = some y := ⟨es[u]'(by omega), by simp⟩
          obtain ⟨a4, q4, t4⟩ := rd_i (k := 1) h8 rfl reads_slB hy
          rw [q4]
          refine inB_in (by omega) c4 (t4 _ ?_)
          have hpre : ∀ z ∈ es.take u, z < y := fun z hz => by
            obtain ⟨i, hi⟩ := List.mem_iff_getElem?.1 hz
            have hlt : i < u := by
              have := (List.getElem?_eq_some_iff.1 hi).1
              simp at this; omega
            rw [List.getElem?_take_of_lt hlt] at hi
            obtain ⟨hi1, hi2⟩ := List.getElem?_eq_some_iff.1 hi
            obtain ⟨hv1, hv2⟩ := List.getElem?_eq_some_iff.1 hy
            have := List.pairwise_iff_getElem.1 hE.1 i u hi1 hv1 hlt
            rw [hi2, hv2] at this
            exact this
          refine ⟨fun bb h' => h' = A8 ∧ ((y = n ∧ bb = true) ∨ (y ≠ n ∧ bb = dn)), ?_, ?_⟩
          · intro bb A9 ⟨g1, g2⟩
            subst g1
            refine ⟨fun s' b' h' => ∃ next', InsI n (es.take (u + 1)) (next' ++ [y]) b' ∧ next'.length ≤ u + 1 ∧ s'.a ≠ none ∧ Own (SlO s' 1 (ints next') :: SlO o3 1 (ints es) :: At b21 [.int .i64 r.1, .int .i64 r.2] :: At b3 [.slice s.a s.len s.cap, .slice s2.a s2.len s2.cap] :: l) h', ?_, ?_⟩
            · intro s' b' A10 ⟨next', i1, i2, i3, h10⟩
              refine push_i h10 (fun g => absurd g i3) (by omega) fun s'' A11 k1 h11 => ?_
              exact ⟨mm - 1, by omega, u + 1, next' ++ [y], by rw [w64] <;> omega, by omega, by omega, i1, by simp; omega, k1, h11⟩
            · rw [take_at hy]
              refine bsel_in (fun g => ?_) fun g => ?_
              · have g : bb = false := by simpa using g
                rcases g2 with ⟨_, g2⟩ | ⟨g2, g3⟩
                · rw [g] at g2; cases g2
                · rw [g] at g3
                  refine bsel_in (fun g4 => ?_) fun g4 => ?_
                  · have g4 : y > n := of_decide_eq_true g4
                    subst g3
                    have hnl2 : next.length ≤ u := by
                      have hsub : ∀ z ∈ next, z ∈ es.take u := fun z hz => by
                        rcases (hI.mem z).1 hz with q | ⟨q, _⟩
                        · exact q
                        · cases q
                      have hnd : next.Nodup := hI.srt.imp fun {a b} q => by omega
                      have := List.Nodup.length_le_of_subset hnd hsub
                      simp at this; omega
                    refine push_i h8 (fun q => absurd q hnx) (by omega) fun s' A10 k1 h10 => ?_
                    exact ⟨next ++ [n], hI.before hpre g4, by simp; omega, k1, h10⟩
                  · have g4 : ¬ y > n := of_decide_eq_false g4
                    subst g3
                    rw [g]
                    exact ⟨next, hI.pass hpre g2 (.inr g4), hnl, hnx, h8⟩
              · have g : bb = true := by simpa using g
                rw [g]
                rcases g2 with ⟨g2, _⟩ | ⟨g2, g3⟩
                · exact ⟨next, hI.same hpre g2, hnl, hnx, h8⟩
                · rw [g] at g3
                  subst g3
                  exact ⟨next, hI.pass hpre g2 (.inl rfl), hnl, hnx, h8⟩
          · refine bsel_in (fun g => ?_) fun g => ?_
            · exact ⟨rfl, .inl ⟨by simpa using g, rfl⟩⟩
            · exact ⟨rfl, .inr ⟨by simpa using g, rfl⟩⟩
        · have c4 : ¬ (u : Int) < o3.len := of_decide_eq_false c4
          have hu : u = es.length := by omega
          subst hu
          rw [List.take_length] at hI
          refine ⟨fun s' h' => ∃ es', EndsOf (ste (j + 1)) es' ∧ es'.length ≤ 2 * (two v).length + 2 * w + (j + 1) ∧ s'.a ≠ none ∧ Own (SlO s' 1 (ints es') :: SlO o3 1 (ints es) :: At b21 [.int .i64 r.1, .int .i64 r.2] :: At b3 [.slice s.a s.len s.cap, .slice s2.a s2.len s2.cap] :: l) h', ?_, ?_⟩
          · intro s' A9 ⟨es', i1, i2, i3, h9⟩
            exact ⟨m'' - 1, by omega, j + 1, es', by rw [w64] <;> omega, by omega, by omega, i1, by omega, i3, h9.cons fun C hC => hC.tail⟩
          · have hcong : ∀ z, (z ∈ es ∨ z = n) ↔ ste (j + 1) z := fun z => by rw [hst z, hE.2 z]
            refine bsel_in (fun g => ?_) fun g => ?_
            · have g : dn = false := by simpa using g
              subst g
              have hnl2 : next.length ≤ es.length := by
                have hsub : ∀ z ∈ next, z ∈ es := fun z hz => by
                  rcases (hI.mem z).1 hz with q | ⟨q, _⟩
                  · exact q
                  · cases q
                exact List.Nodup.length_le_of_subset (hI.srt.imp fun {a b} q => by omega) hsub
              refine push_i h8 (fun q => absurd q hnx) (by omega) fun s' A9 k1 h9 => ?_
              exact ⟨next ++ [n], hI.end0.congr hcong, by simp; omega, k1, h9⟩
            · have g : dn = true := by simpa using g
              subst g
              exact ⟨next, hI.end1.congr hcong, by omega, hnx, h8⟩
      · have c3 : ¬ (j : Int) < 2 := of_decide_eq_false c3
        have hj : j = 2 := by omega
        subst hj
        refine ⟨m' - 1, by omega, w + 1, es, by rw [w64] <;> omega, by omega, by omega, hE.congr fun z => ?_, by omega, ho, h6.cons fun C hC => hC.tail⟩
        subst hste
        rw [take_at hrv, ← List.append_assoc, endS_push]
        simp
    · have c2 : ¬ (w : Int) < sv.len := of_decide_eq_false c2
      have hw : w = cur.length := by omega
      subst hw
      rw [List.take_length] at hE
      refine ⟨m - 1, by omega, v + 1, es, by rw [w64] <;> omega, by omega, by omega, by rw [htw]; exact hE, ?_, ho, h4⟩
      rw [htw, List.length_append]
      omega
  · have c : ¬ (v : Int) < 2 := of_decide_eq_false c
    have hv : v = 2 := by omega
    subst hv
    subst htwo
    refine hk es (by simpa using hE) (by simp at hlen; omega) o A3 ho (h3.cons fun C hC => hC.tail)
end Go.Dn
/- The document's answer: what lies in ranges and in none of others. -/
namespace Go.Dn

variable {A : AH} {l R : List SP} {P P2 : SP} {k k2 : Nat} {s s2 : Sl} {L AW : List Rg} {es : List Int}
theorem rise_le {es : List Int} (h : es.Pairwise (· < ·)) {i j : Nat} {a b : Int} (hi : es[i]? = some a) (hj : es[j]? = some b) (hij : i ≤ j) : a ≤ b := by
  obtain ⟨i1, i2⟩ := List.getElem?_eq_some_iff.1 hi
  obtain ⟨j1, j2⟩ := List.getElem?_eq_some_iff.1 hj
  rcases Nat.lt_or_eq_of_le hij with g | g
  · have := List.pairwise_iff_getElem.1 h i j i1 j1 g
    rw [i2, j2] at this
    omega
  · subst g
    rw [hi] at hj
    cases hj
    exact Int.le_refl _
theorem gap_of {es : List Int} (h : es.Pairwise (· < ·)) {v : Nat} {e e' z : Int} (hv : es[v]? = some e) (hv' : es[v + 1]? = some e') (hz : z ∈ es) : z ≤ e ∨ e' ≤ z := by
  obtain ⟨i, hi⟩ := List.mem_iff_getElem?.1 hz
  rcases Nat.lt_or_ge v i with g | g
  · exact .inr (rise_le h hv' hi g)
  · exact .inl (rise_le h hi hv g)
set_option maxHeartbeats 1000000 in
theorem RefLess_spec {Q : Sl → AH → Prop} (h : Own l A) (e : l[k]? = some P) (hr : Reads P s 2 (rgs L)) (hb : L.length ≤ 200) (e2 : l[k2]? = some P2) (hr2 : Reads P2 s2 2 (rgs AW)) (hb2 : AW.length ≤ 200)
    (hk : ∀ m : List Rg, NF m → (∀ n, memR m n ↔ memR L n ∧ ¬ memR AW n) → m.length ≤ 800 → ∀ s' A', s'.a ≠ none → Own (SlO s' 2 (rgs m) :: l) A' → Q s' A') : demesneref06_Less_A s s2 Q A := by
  unfold demesneref06_Less_A demesneref06_Less_G
  refine new_C (cs := []) h fun b1 A1 h1 => ?_
  have h1 : Own (SlO ⟨some ⟨b1, 0, none⟩, 0, 0⟩ 2 (rgs []) :: l) A1 := h1.imp fun B _ => ⟨⟨by simp [rgs], Nat.le_refl _⟩, .inl rfl⟩
  refine Ends_spec (k := k + 1) (k2 := k2 + 1) h1 (by simpa using e) hr hb (by simpa using e2) hr2 hb2 fun es hE hel s3 A2 hs3 h2 => ?_
  have h2 := h2.swap
  have hend : ∀ r ∈ L ++ AW, r.1 ∈ es ∧ r.2 ∈ es := fun r hr' => ⟨(hE.2 _).2 ⟨r, hr', .inl rfl⟩, (hE.2 _).2 ⟨r, hr', .inr rfl⟩⟩
  refine ⟨fun o x m h' => ∃ (v : Nat) (out : List Rg), x = v ∧ m + v = es.length ∧ (∀ e0, es[v]? = some e0 → EnI L AW e0 out) ∧ (es = [] → out = []) ∧ (es ≠ [] → v < es.length) ∧ out.length ≤ v ∧ o.a ≠ none ∧ Own (SlO o 2 (rgs out) :: SlO s3 1 (ints es) :: l) h',
    ⟨es.length, 0, [], rfl, by omega, fun e0 he0 => EnI.start fun r hr' => ?_, fun _ => rfl, fun g => List.length_pos_iff.2 g, by simp, fun g => (nomatch g), h2⟩, ?_⟩
  · obtain ⟨i, hi⟩ := List.mem_iff_getElem?.1 (hend r (by simp [hr'])).1
    exact rise_le hE.1 he0 hi (Nat.zero_le _)
  intro o x m A3 ⟨v, out, e3, e4, hI, hnil, hlt, hol, ho, h3⟩
  subst e3
  have hl3 : s3.len = es.length := by have := rd_len (i := 1) h3 rfl reads_slB; rw [ints_len] at this; omega
  have hw : IntKind.wrap .i64 ((v : Int) + 1) = ((v + 1 : Nat) : Int) := by rw [w64] <;> omega
  rw [hw]
  refine bsel_in (fun c => ?_) fun c => ?_
  · have c : ((v + 1 : Nat) : Int) < s3.len := of_decide_eq_true c
    obtain ⟨e0, he0⟩ : ∃ e0, es[v]? = some e0 := ⟨es[v]'(by omega), by simp⟩
    obtain ⟨e1, he1⟩ : ∃ e1, es[v + 1]? = some e1 := ⟨es[v + 1]'(by omega), by simp⟩
    have hI := hI e0 he0
    have hlt01 : e0 < e1 := by
      obtain ⟨i1, i2⟩ := List.getElem?_eq_some_iff.1 he0
      obtain ⟨j1, j2⟩ := List.getElem?_eq_some_iff.1 he1
      have := List.pairwise_iff_getElem.1 hE.1 v (v + 1) i1 j1 (by omega)
      rw [i2, j2] at this
      exact this
    have gL : Gap L e0 e1 := fun r hr' => ⟨gap_of hE.1 he0 he1 (hend r (by simp [hr'])).1, gap_of hE.1 he0 he1 (hend r (by simp [hr'])).2⟩
    have gA : Gap AW e0 e1 := fun r hr' => ⟨gap_of hE.1 he0 he1 (hend r (by simp [hr'])).1, gap_of hE.1 he0 he1 (hend r (by simp [hr'])).2⟩
    refine ⟨fun o' h' => ∃ out', EnI L AW e1 out' ∧ out'.length ≤ v + 1 ∧ o'.a ≠ none ∧ Own (SlO o' 2 (rgs out') :: SlO s3 1 (ints es) :: l) h', ?_, ?_⟩
    · intro o' A4 ⟨out', f1, f2, f3, h4⟩
      exact ⟨m - 1, by omega, v + 1, out', rfl, by omega, fun e' he' => by rw [he1] at he'; cases he'; exact f1, fun g => by rw [g] at he0; simp at he0, fun _ => by omega, f2, f3, h4⟩
    · refine ⟨fun h' => h' = A3 ∧ memR L e0 ∧ ¬ memR AW e0, ?_, ?_⟩
      · intro A4 ⟨f1, f2, f3⟩
        subst f1
        have rdA := fun {A' : AH} {R0 : SP} (h' : Own (R0 :: SlO s3 1 (ints es) :: l) A') => rd_i (k := 1) h' rfl reads_slB he0
        have rdB := fun {A' : AH} {R0 : SP} (h' : Own (R0 :: SlO s3 1 (ints es) :: l) A') => rd_i (k := 1) h' rfl reads_slB he1
        have hlo := h3.rgs_len
        have push : (∀ q, out.getLast? = some q → q.2 ≠ e0) → ∀ (t : TypeId), newA A4 (.cells #[.int .i64 e0, .int .i64 e1] t) fun b h2 => apA 2 16 #[.int .i64 0, .int .i64 0] t o (Sl.mk (some (Addr.mk b 0 none)) 1 1) h2 fun s' h' => ∃ out', EnI L AW e1 out' ∧ out'.length ≤ v + 1 ∧ s'.a ≠ none ∧ Own (SlO s' 2 (rgs out') :: SlO s3 1 (ints es) :: l) h' := fun hq t => by
          refine push_rg h3 (fun g => absurd g ho) (by omega) fun s' A5 j1 h5 => ?_
          exact ⟨out ++ [(e0, e1)], hI.new gL gA hlt01 f2 f3 hq, by simp; omega, fun g => by have := j1 g; simp at this, h5⟩
        obtain ⟨a, q1, r1⟩ := rdA h3
        obtain ⟨a', q1', r1'⟩ := rdB h3
        rw [q1] at q1'
        cases q1'
        have hb0 : ∀ K : Prop, K → inB (v : Int) s3.len K := fun K hK => inB_in (by omega) (by omega) hK
        have hb1 : ∀ K : Prop, K → inB ((v + 1 : Nat) : Int) s3.len K := fun K hK => inB_in (by omega) (by omega) hK
        rw [q1]
        refine bsel_in (fun g => ?_) fun g => ?_
        · have g : (0 : Int) < o.len := by simpa using g
          have hpos : 0 < out.length := by omega
          obtain ⟨q, hq⟩ : ∃ q, out.getLast? = some q := by
            cases e' : out.getLast? with
            | none => rw [List.getLast?_eq_none_iff.1 e'] at hpos; simp at hpos
            | some q => exact ⟨q, rfl⟩
          obtain ⟨ol, hol'⟩ := List.getLast?_eq_some_iff.1 hq
          have hqi : out[out.length - 1]? = some q := by rw [hol']; simp
          have hw2 : IntKind.wrap .i64 (Int.ofNat o.len - 1) = ((out.length - 1 : Nat) : Int) := by
            rw [w64] <;> simp only [Int.ofNat_eq_natCast] <;> omega
          rw [hw2]
          obtain ⟨a2, q2, t1, t2⟩ := rd_rg (k := 0) h3 rfl reads_slB hqi
          rw [q2]
          refine inB_in (by omega) (by omega) (t2 _ (hb0 _ (r1 _ ?_)))
          refine bsel_in (fun g2 => ?_) fun g2 => ?_
          · have g2 : q.2 = e0 := by simpa using g2
            refine hb1 _ (r1' _ ?_)
            refine inB_in (by omega) (by omega) ?_
            have had : Addr.add (Addr.add a2 (Int.toNat ((out.length - 1 : Nat) : Int) * 2)) 1 = Addr.add a2 ((out.length - 1) * 2 + 1) := by
              obtain ⟨b, rest, ha, _⟩ := h3.openS (fun g => by have := rgs_nil g; rw [this] at hpos; simp at hpos)
              rw [q2] at ha
              cases ha
              rw [add_at, add_at, add_at, Int.toNat_natCast]
              congr 1
            rw [had]
            refine st_slo h3 q2 (by rw [rgs_len]; omega) rfl fun A6 h6 => ?_
            rw [rgs_set _ hqi] at h6
            have hset : out.set (out.length - 1) (q.1, e1) = ol ++ [(q.1, e1)] := by
              rw [hol']
              simp [List.set_append_right]
            rw [hset] at h6
            refine ⟨ol ++ [(q.1, e1)], ?_, ?_, ho, h6⟩
            · rw [hol'] at hI
              exact hI.more gL gA hlt01 f2 f3 g2
            · rw [hol'] at hol
              simpa using Nat.le_succ_of_le hol
          · have g2 : q.2 ≠ e0 := by simpa using g2
            refine hb0 _ (hb1 _ (r1 _ (r1' _ ?_)))
            exact push (fun q' hq' => by rw [hq] at hq'; cases hq'; exact g2) _
        · have g : ¬ (0 : Int) < o.len := by simpa using g
          have h0 : out = [] := List.length_eq_zero_iff.1 (by omega)
          refine hb0 _ (hb1 _ (r1 _ (r1' _ ?_)))
          exact push (fun q' hq' => by rw [h0] at hq'; cases hq') _
      · obtain ⟨a, q1, r1⟩ := rd_i (k := 1) h3 rfl reads_slB he0
        rw [q1]
        refine inB_in (by omega) (by omega) (r1 _ ?_)
        refine Some_spec (k := k + 2) h3 (by simpa using e) hr (by omega) ?_
        refine bsel_in (fun g => ?_) fun g => ?_
        · have g : someB L e0 = false := by simpa using g
          exact ⟨out, hI.skip gL gA hlt01 (.inl (someB_false.1 g)), by omega, ho, h3⟩
        · have g : someB L e0 = true := by simpa using g
          refine inB_in (by omega) (by omega) (r1 _ ?_)
          refine Some_spec (k := k2 + 2) h3 (by simpa using e2) hr2 (by omega) ?_
          refine bsel_in (fun g2 => ?_) fun g2 => ?_
          · exact ⟨out, hI.skip gL gA hlt01 (.inr (someB_iff.1 g2)), by omega, ho, h3⟩
          · exact ⟨rfl, someB_iff.1 g, someB_false.1 g2⟩
  · have c : ¬ ((v + 1 : Nat) : Int) < s3.len := of_decide_eq_false c
    have hdone : NF out ∧ ∀ n, memR out n ↔ memR L n ∧ ¬ memR AW n := by
      by_cases hes : es = []
      · rw [hnil hes]
        have hL0 : L = [] := by
          cases L with
          | nil => rfl
          | cons r L => have := (hend r (by simp)).1; rw [hes] at this; cases this
        subst hL0
        exact ⟨NF.nil, fun n => ⟨fun g => absurd g (memR_nil n), fun g => absurd g.1 (memR_nil n)⟩⟩
      · have hvl := hlt hes
        obtain ⟨e0, he0⟩ : ∃ e0, es[v]? = some e0 := ⟨es[v], by simp⟩
        have hI := hI e0 he0
        refine ⟨hI.nf, hI.fin fun r hr' => ?_⟩
        obtain ⟨i, hi⟩ := List.mem_iff_getElem?.1 (hend r (by simp [hr'])).2
        have := (List.getElem?_eq_some_iff.1 hi).1
        exact rise_le hE.1 hi he0 (by omega)
    exact hk out hdone.1 hdone.2 (by omega) o A3 ho (h3.cons fun C hC => hC.tail)
end Go.Dn
/- The document's frames of a map. -/
namespace Go.Dn

variable {A : AH} {l R : List SP} {P P2 : SP} {k k2 : Nat} {s s2 : Sl} {bs : List Int}
theorem shr12 {x : Int} : Int.fdiv x (2 ^ (12 : Nat)) = x / 4096 := shr_eq
/-- The document's frames of an area that may be used. -/
def whP (a : Ar) (most : Int) : Rg :=
  (if most < (a.1 + 4095) / 4096 then most else (a.1 + 4095) / 4096, if most < (a.1 + a.2.1) / 4096 then most else (a.1 + a.2.1) / 4096)
/-- The document's frames of an area that may not be used. -/
def toP (a : Ar) (most : Int) : Rg := if a.2.1 = 0 then (0, 0) else
  (if most < a.1 / 4096 then most else a.1 / 4096, if most < (a.1 + a.2.1 - 1) / 4096 + 1 then most else (a.1 + a.2.1 - 1) / 4096 + 1)
theorem whole_spec {a : Ar} {most : Int} {Q : Int → Int → AH → Prop} (ha : ArB a) (h1 : 1 ≤ most) (h2 : most ≤ 2097152) (hk : Q (whP a most).1 (whP a most).2 A) : demesneref06_whole_A a.1 a.2.1 a.2.2 most Q A := by
  obtain ⟨x, n, kd⟩ := a
  obtain ⟨a1, a2, a3, a4, a5⟩ := ha
  simp only at a1 a2 a3 a4 a5
  unfold whP at hk
  simp only at hk ⊢
  unfold demesneref06_whole_A
  have w1 : IntKind.wrap .u64 (x + n) = x + n := wu64 (by omega) (by omega)
  rw [w1, shr12, shr12, and4095 a1 (by omega)]
  have hmin : ∀ y : Int, 0 ≤ y → IntKind.wrap .i64 (if most < y then most else y) = if most < y then most else y := fun y hy => by rw [w64] <;> split <;> omega
  refine ⟨fun f h' => h' = A ∧ f = (x + 4095) / 4096, ?_, ?_⟩
  · intro f A1 ⟨e1, e2⟩
    subst e1 e2
    rw [hmin _ (by omega), hmin _ (by omega)]
    exact hk
  · refine bsel_in (fun g => ?_) fun g => ?_
    · have g : x % 4096 > 0 := of_decide_eq_true g
      refine ⟨rfl, ?_⟩
      rw [wu64 (by omega) (by omega)]
      omega
    · have g : ¬ x % 4096 > 0 := of_decide_eq_false g
      refine ⟨rfl, ?_⟩
      omega
theorem touched_spec {a : Ar} {most : Int} {Q : Int → Int → AH → Prop} (ha : ArB a) (h1 : 1 ≤ most) (h2 : most ≤ 2097152) (hk : Q (toP a most).1 (toP a most).2 A) : demesneref06_touched_A a.1 a.2.1 a.2.2 most Q A := by
  obtain ⟨x, n, kd⟩ := a
  obtain ⟨a1, a2, a3, a4, a5⟩ := ha
  simp only at a1 a2 a3 a4 a5
  unfold toP at hk
  simp only at hk ⊢
  unfold demesneref06_touched_A
  refine bsel_in (fun g => ?_) fun g => ?_
  · have g : n = 0 := by simpa using g
    rw [if_pos g] at hk
    exact hk
  · have g : n ≠ 0 := by simpa using g
    rw [if_neg g] at hk
    have hmin : ∀ y : Int, 0 ≤ y → IntKind.wrap .i64 (if most < y then most else y) = if most < y then most else y := fun y hy => by rw [w64] <;> split <;> omega
    have w1 : IntKind.wrap .u64 (x + n) = x + n := wu64 (by omega) (by omega)
    have w2 : IntKind.wrap .u64 (x + n - 1) = x + n - 1 := wu64 (by omega) (by omega)
    rw [w1, w2, shr12, shr12]
    have w3 : IntKind.wrap .u64 ((x + n - 1) / 4096 + 1) = (x + n - 1) / 4096 + 1 := wu64 (by omega) (by omega)
    rw [w3, hmin _ (by omega), hmin _ (by omega)]
    exact hk
theorem whP_mem {a : Ar} {f n : Int} (ha : ArB a) (hk : a.2.2 = 1) : inRg (whP a f) n ↔ inRg (frP a f) n := by
  obtain ⟨a1, a2, a3, a4, a5⟩ := ha
  unfold inRg whP frP
  simp only [if_pos hk]
  by_cases h : a.2.1 = 0
  · simp only [if_pos h]
    constructor
    · rintro ⟨g1, g2⟩
      exfalso
      split at g1 <;> split at g2 <;> omega
    · rintro ⟨g1, g2⟩
      exfalso
      omega
  · simp only [if_neg h]
theorem toP_mem {a : Ar} {f n : Int} (ha : ArB a) (hk : ¬ a.2.2 = 1) : inRg (toP a f) n ↔ inRg (frP a f) n := by
  obtain ⟨a1, a2, a3, a4, a5⟩ := ha
  unfold inRg toP frP
  simp only [if_neg hk]
  by_cases h : a.2.1 = 0
  · simp only [if_pos h]
    constructor <;> rintro ⟨g1, g2⟩ <;> exfalso <;> omega
  · simp only [if_neg h]
    have : (a.1 + a.2.1 - 1) / 4096 + 1 = (a.1 + a.2.1 + 4095) / 4096 := by omega
    rw [this]
def useR (ars : List Ar) (f : Int) : List Rg := (ars.filter fun a => a.2.2 == 1).map fun a => whP a f
def awayR (ars : List Ar) (f : Int) (kn : Rg) : List Rg := kn :: (ars.filter fun a => !(a.2.2 == 1)).map fun a => toP a f
theorem useR_mem {ars : List Ar} {f n : Int} (h : ∀ a ∈ ars, ArB a) : memR (useR ars f) n ↔ memR (useL ars f) n := by
  unfold useR useL memR
  constructor
  · rintro ⟨r, hr, hn⟩
    obtain ⟨a, ha, rfl⟩ := List.mem_map.1 hr
    obtain ⟨h1, h2⟩ := List.mem_filter.1 ha
    exact ⟨_, List.mem_map.2 ⟨a, ha, rfl⟩, (whP_mem (h a h1) (by simpa using h2)).1 hn⟩
  · rintro ⟨r, hr, hn⟩
    obtain ⟨a, ha, rfl⟩ := List.mem_map.1 hr
    obtain ⟨h1, h2⟩ := List.mem_filter.1 ha
    exact ⟨_, List.mem_map.2 ⟨a, ha, rfl⟩, (whP_mem (h a h1) (by simpa using h2)).2 hn⟩
theorem awayR_mem {ars : List Ar} {f n : Int} {kn : Rg} (h : ∀ a ∈ ars, ArB a) : memR (awayR ars f kn) n ↔ memR (awayL ars f kn) n := by
  unfold awayR awayL
  rw [memR_cons, memR_cons]
  refine or_congr Iff.rfl ?_
  unfold memR
  constructor
  · rintro ⟨r, hr, hn⟩
    obtain ⟨a, ha, rfl⟩ := List.mem_map.1 hr
    obtain ⟨h1, h2⟩ := List.mem_filter.1 ha
    exact ⟨_, List.mem_map.2 ⟨a, ha, rfl⟩, (toP_mem (h a h1) (by simpa using h2)).1 hn⟩
  · rintro ⟨r, hr, hn⟩
    obtain ⟨a, ha, rfl⟩ := List.mem_map.1 hr
    obtain ⟨h1, h2⟩ := List.mem_filter.1 ha
    exact ⟨_, List.mem_map.2 ⟨a, ha, rfl⟩, (toP_mem (h a h1) (by simpa using h2)).2 hn⟩
theorem RefFrames_spec {f : Int} {kn : Rg} {Q : Sl → Int → AH → Prop} (h : Own l A) (e : l[k]? = some P) (hr : Reads P s 1 (bs.map byV)) (hcap : s.len ≤ s.cap) (hb : ∀ x ∈ bs, 0 ≤ x ∧ x < 256)
    (hk : ∀ er m s' A', frOut bs f kn er m → m.length ≤ 4224 → (s'.a = none → m = []) → Own (SlO s' 2 (rgs m) :: l) A' → Q s' er A') : demesneref06_Frames_A s f kn.1 kn.2 Q A := by
  unfold demesneref06_Frames_A demesneref06_Frames_G
  have nil : ∀ er (A' : AH), Own l A' → frOut bs f kn er [] → Q Sl.nil er A' := fun er A' h' ho => hk er [] Sl.nil A' ho (by simp) (fun _ => rfl) h'.nilS
  refine ⟨fun h' => Own l h' ∧ ¬ badArg f kn, ?_, ?_⟩
  · intro A1 ⟨h1, hbad⟩
    have hf : 1 ≤ f ∧ f ≤ 1048576 := by unfold badArg at hbad; omega
    have wf : IntKind.wrap .u64 f = f := wu64 (by omega) (by omega)
    rw [wf]
    refine RefParse_spec h1 e hr hcap hb fun s3 A2 hs3 h2 => ?_
    refine bsel_in (fun g => ?_) fun g => ?_
    · have g : (parseP bs).1 ≠ 0 := by simpa using g
      exact nil _ A2 h2.tail (.inr (.inl ⟨hbad, g, rfl, rfl⟩))
    · have g : (parseP bs).1 = 0 := by simpa using g
      have hl3 := rd_ar_len (k := 0) h2 rfl reads_slB
      have h64 := parseP_len (bs := bs)
      have hars : ∀ a ∈ (parseP bs).2, ArB a := fun a ha => areaZ_ok hb ha
      have hul : ∀ v, (useR ((parseP bs).2.take v) f).length ≤ 64 := fun v => by
        unfold useR
        rw [List.length_map]
        have := List.length_filter_le (fun a : Ar => a.2.2 == 1) ((parseP bs).2.take v)
        have := (List.take_sublist v (parseP bs).2).length_le
        omega
      have hwl : ∀ v, (awayR ((parseP bs).2.take v) f kn).length ≤ 65 := fun v => by
        unfold awayR
        rw [List.length_cons, List.length_map]
        have := List.length_filter_le (fun a : Ar => !(a.2.2 == 1)) ((parseP bs).2.take v)
        have := (List.take_sublist v (parseP bs).2).length_le
        omega
      refine ⟨new_C (cs := []) h2 fun b1 A3 h3 => new_C (cs := [.int .i64 kn.1, .int .i64 kn.2]) h3 fun b2 A4 h4' => have h4 := h4'.swap; ?_, new_C (cs := [.int .i64 kn.1, .int .i64 kn.2]) h2 fun b2 A3 h3 => new_C (cs := []) h3 fun b1 A4 h4 => ?_⟩
      all_goals
        have h4a : Own (SlO ⟨some ⟨b1, 0, none⟩, 0, 0⟩ 2 [] :: At b2 [.int .i64 kn.1, .int .i64 kn.2] :: SlO s3 3 (arsC (parseP bs).2) :: l) A4 := h4.imp fun B _ => ⟨⟨by simp, Nat.le_refl _⟩, .inl rfl⟩
        have h4b := h4a.swap.range1.swap
        refine ⟨fun u w x m h' => ∃ v : Nat, x = v ∧ m + v = (parseP bs).2.length ∧ (u.a = none → useR ((parseP bs).2.take v) f = []) ∧ (w.a = none → awayR ((parseP bs).2.take v) f kn = []) ∧
            Own (SlO u 2 (rgs (useR ((parseP bs).2.take v) f)) :: SlO w 2 (rgs (awayR ((parseP bs).2.take v) f kn)) :: SlO s3 3 (arsC (parseP bs).2) :: l) h',
          ⟨(parseP bs).2.length, 0, rfl, by omega, fun _ => rfl, fun g => (nomatch g), by simp only [useR, awayR, List.take_zero, List.filter_nil, List.map_nil]; exact h4b⟩, ?_⟩
        intro u w x m A5 ⟨v, e1, e2, hu, hw, h5⟩
        subst e1
        refine bsel_in (fun c => ?_) fun c => ?_
        · have c : (v : Int) < s3.len := of_decide_eq_true c
          obtain ⟨a, hav⟩ : ∃ a, (parseP bs).2[v]? = some a := ⟨(parseP bs).2[v]'(by omega), by simp⟩
          have haB : ArB a := areaZ_ok hb (List.mem_of_getElem? hav)
          refine ⟨fun u' w' h' => (u'.a = none → useR ((parseP bs).2.take (v + 1)) f = []) ∧ (w'.a = none → awayR ((parseP bs).2.take (v + 1)) f kn = []) ∧
            Own (SlO u' 2 (rgs (useR ((parseP bs).2.take (v + 1)) f)) :: SlO w' 2 (rgs (awayR ((parseP bs).2.take (v + 1)) f kn)) :: SlO s3 3 (arsC (parseP bs).2) :: l) h', ?_, ?_⟩
          · intro u' w' A6 ⟨f1, f2, h6⟩
            exact ⟨m - 1, by omega, v + 1, by rw [w64] <;> omega, by omega, f1, f2, h6⟩
          · obtain ⟨ad, q1, r1, r2, r3⟩ := rd_ar (k := 2) h5 rfl reads_slB hav
            rw [q1]
            refine inB_in (by omega) c (r1 _ (r2 _ (r3 _ ?_)))
            refine bsel_in (fun g2 => ?_) fun g2 => ?_
            · refine whole_spec haB hf.1 (by omega) ?_
              have hU : useR ((parseP bs).2.take (v + 1)) f = useR ((parseP bs).2.take v) f ++ [((whP a f).1, (whP a f).2)] := by
                rw [take_at hav]; unfold useR; rw [List.filter_append, List.map_append]
                simp [g2]
              have hW : awayR ((parseP bs).2.take (v + 1)) f kn = awayR ((parseP bs).2.take v) f kn := by
                rw [take_at hav]; unfold awayR; rw [List.filter_append]
                simp [g2]
              refine push_rg h5 hu (by have := hul v; omega) fun s' A6 j1 h6 => ?_
              rw [hU, hW]
              exact ⟨j1, hw, h6⟩
            · refine touched_spec haB hf.1 (by omega) ?_
              have hU : useR ((parseP bs).2.take (v + 1)) f = useR ((parseP bs).2.take v) f := by
                rw [take_at hav]; unfold useR; rw [List.filter_append]
                simp [g2]
              have hW : awayR ((parseP bs).2.take (v + 1)) f kn = awayR ((parseP bs).2.take v) f kn ++ [((toP a f).1, (toP a f).2)] := by
                rw [take_at hav]; unfold awayR; rw [List.filter_append, List.map_append]
                simp [g2]
              refine push_rg h5.swap hw (by have := hwl v; omega) fun s' A6 j1 h6 => ?_
              rw [hU, hW]
              exact ⟨hu, j1, h6.swap⟩
        · have c : ¬(v : Int) < s3.len := of_decide_eq_false c
          have hv : v = (parseP bs).2.length := by omega
          subst hv
          rw [List.take_length] at hu hw h5
          have hul := hul (parseP bs).2.length
          have hwl := hwl (parseP bs).2.length
          rw [List.take_length] at hul hwl
          refine RefLess_spec (k := 0) (k2 := 1) h5 rfl reads_slB (by omega) rfl reads_slB (by omega) fun m' hm hmm hml s' A6 hs' h6 => ?_
          have hmm : ∀ n, memR m' n ↔ memR (useL (parseP bs).2 f) n ∧ ¬ memR (awayL (parseP bs).2 f kn) n := fun n => by rw [hmm n, useR_mem hars, awayR_mem hars]
          have hl6 := h6.rgs_len
          have h7 : Own (SlO s' 2 (rgs m') :: l) A6 := h6.cons fun C hC => hC.tail.tail.tail
          refine bsel_in (fun g2 => ?_) fun g2 => ?_
          · have g2 : (s'.len : Int) = 0 := by simpa using g2
            have h0 : m' = [] := List.length_eq_zero_iff.1 (by omega)
            subst h0
            exact nil _ A6 h7.tail (.inr (.inr ⟨hbad, g, hm, hmm, by simp⟩))
          · have g2 : (s'.len : Int) ≠ 0 := by simpa using g2
            have h0 : m' ≠ [] := fun q => by subst q; simp at hl6; omega
            exact hk _ m' s' A6 (.inr (.inr ⟨hbad, g, hm, hmm, by rw [if_neg h0]⟩)) (by omega) (fun q => absurd q hs') h7
  · have bad1 : badArg f kn → Q Sl.nil 1 A := fun g => nil _ A h (.inl ⟨g, rfl, rfl⟩)
    refine bsel_in (fun g => bad1 (.inl (of_decide_eq_true g))) fun g1 => bsel_in (fun g => bad1 (.inr (.inl (of_decide_eq_true g)))) fun g2 => bsel_in (fun g => bad1 (.inr (.inr (.inl (of_decide_eq_true g))))) fun g3 => bsel_in (fun g => bad1 (.inr (.inr (.inr (.inl (of_decide_eq_true g)))))) fun g4 => bsel_in (fun g => bad1 (.inr (.inr (.inr (.inr (of_decide_eq_true g)))))) fun g5 => ⟨h, ?_⟩
    have g1 := of_decide_eq_false g1
    have g2 := of_decide_eq_false g2
    have g3 := of_decide_eq_false g3
    have g4 := of_decide_eq_false g4
    have g5 := of_decide_eq_false g5
    unfold badArg
    omega
theorem frOut_det {f : Int} {kn : Rg} {e1 e2 : Int} {m1 m2 : List Rg} (h1 : frOut bs f kn e1 m1) (h2 : frOut bs f kn e2 m2) : e1 = e2 ∧ m1 = m2 := by
  rcases h1 with ⟨a, b, c⟩ | ⟨a, b, c, d⟩ | ⟨a, b, c, d, g⟩
  · rcases h2 with ⟨a2, b2, c2⟩ | ⟨a2, _⟩ | ⟨a2, _⟩
    · exact ⟨by rw [b, b2], by rw [c, c2]⟩
    · exact absurd a a2
    · exact absurd a a2
  · rcases h2 with ⟨a2, _⟩ | ⟨a2, b2, c2, d2⟩ | ⟨a2, b2, _⟩
    · exact absurd a2 a
    · exact ⟨by rw [c, c2], by rw [d, d2]⟩
    · exact absurd b2 b
  · rcases h2 with ⟨a2, _⟩ | ⟨a2, b2, _⟩ | ⟨a2, b2, c2, d2, g2⟩
    · exact absurd a2 a
    · exact absurd b b2
    · have : m1 = m2 := NF.eq c c2 fun n => by rw [d n, d2 n]
      subst this
      exact ⟨by rw [g, g2], rfl⟩
end Go.Dn
