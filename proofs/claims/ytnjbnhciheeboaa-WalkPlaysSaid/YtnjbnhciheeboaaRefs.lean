/- The document's memory; a memory by the place of its part in a list. -/
import Derived.Test.YtnjbnhciheeboaaPte
namespace Go.Dn

variable {A : AH} {l : List SP} {r : Nat} {fr : Int} {hs : List (Int × Int)} {M : Int → Int}
theorem RamS.byte {i : Nat} (h : Own l A) (e : l[i]? = some (RamS r fr hs M)) : ∀ a, 0 ≤ M a ∧ M a < 256 := by
  obtain ⟨s, mb, pm, ok, _⟩ := RamS.open h e
  exact ok.byte
theorem Store_at {i : Nat} {a x : Int} {n : Nat} {Q : Int → AH → Prop} (h : Own l A) (e : l[i]? = some (RamS r fr hs M)) (hl : hs.length ≤ 64) (hf : 0 ≤ fr ∧ fr ≤ 1048576) (hz : n = 1 ∨ n = 2 ∨ n = 4 ∨ n = 8)
    (ha : 0 ≤ a ∧ a < 18446744073709551616) (hn : okA fr hs a n = false → Q 2 A) (hk : okA fr hs a n = true → ∀ A', Own (l.set i (RamS r fr hs (stM M a n x))) A' → Q 0 A') : ram_RAM_Store_A (some ⟨r, 0, none⟩) a n x Q A :=
  Store_spec (h.pick i e) hl hf hz ha hn fun ok A' h' => hk ok A' (Own.back i e h')
theorem word_u64 {i : Nat} (h : Own l A) (e : l[i]? = some (RamS r fr hs M)) (a : Int) : U64 (le M a 8) := by
  have := le_bound (RamS.byte h e) 8 a
  exact ⟨this.1, this.2⟩
theorem le_snoc (M : Int → Int) : ∀ (n : Nat) (a : Int), le M a (n + 1) = le M a n + M (a + n) * 256 ^ n
  | 0, a => by simp [le]
  | n + 1, a => by
    show M a + 256 * le M (a + 1) (n + 1) = (M a + 256 * le M (a + 1) n) + M (a + ((n + 1 : Nat) : Int)) * 256 ^ (n + 1)
    rw [le_snoc M n (a + 1), Int.pow_succ, show a + 1 + (n : Int) = a + ((n + 1 : Nat) : Int) by omega]
    rw [Int.mul_add, Int.add_assoc, Int.mul_left_comm, Int.mul_comm (256 : Int) (256 ^ n)]
theorem le_congr {M N : Int → Int} : ∀ (n : Nat) (a : Int), (∀ c, a ≤ c → c < a + n → M c = N c) → le M a n = le N a n
  | 0, _, _ => rfl
  | n + 1, a, h => by
    simp only [le]
    rw [h a (by omega) (by omega), le_congr n (a + 1) fun c h1 h2 => h c (by omega) (by omega)]
/-- What was stored is there. -/
theorem le_bytes (x : Int) : ∀ (n k : Nat) (N : Int → Int) (a : Int), (∀ j : Nat, j < n → N (a + j) = x / 2 ^ (8 * (k + j)) % 256) → le N a n = x / 2 ^ (8 * k) % 256 ^ n
  | 0, k, N, a, h => by simp [le, Int.emod_one]
  | n + 1, k, N, a, h => by
    simp only [le]
    have h0 := h 0 (by omega)
    rw [Int.natCast_zero, Int.add_zero, Nat.add_zero] at h0
    rw [h0, le_bytes x n (k + 1) N (a + 1) fun j hj => by rw [← show a + ((j + 1 : Nat) : Int) = a + 1 + j by omega, h (j + 1) (by omega), show k + (j + 1) = k + 1 + j by omega]]
    rw [show 8 * (k + 1) = 8 * k + 8 by omega, Int.pow_add, ← Int.ediv_ediv_of_nonneg (Int.pow_nonneg (by omega))]
    generalize x / 2 ^ (8 * k) = z
    rw [Int.pow_succ]
    show z % 256 + 256 * (z / 256 % 256 ^ n) = z % (256 ^ n * 256)
    have h3 : z / 256 % 256 ^ n = z / 256 - 256 ^ n * (z / 256 / 256 ^ n) := by
      have := Int.mul_ediv_add_emod (z / 256) (256 ^ n); omega
    have h4 : z % (256 ^ n * 256) = z - 256 ^ n * 256 * (z / (256 ^ n * 256)) := by
      have := Int.mul_ediv_add_emod z (256 ^ n * 256); omega
    rw [h3, h4, Int.ediv_ediv_of_nonneg (by omega), Int.mul_comm 256 (256 ^ n : Int)]
    generalize z / (256 ^ n * 256) = w
    have : 256 ^ n * 256 * w = 256 * (256 ^ n * w) := by rw [Int.mul_comm (256 ^ n : Int) 256, Int.mul_assoc]
    omega
theorem le_same (M : Int → Int) (a x : Int) (n : Nat) (hx : 0 ≤ x) (hx2 : x < 256 ^ n) : le (stM M a n x) a n = x := by
  have := le_bytes x n 0 (stM M a n x) a fun j hj => by
    unfold stM
    rw [if_pos ⟨by omega, by omega⟩, show (a + (j : Int) - a).toNat = 0 + j by omega]
  rw [this]
  simp
  exact Int.emod_eq_of_lt hx hx2
theorem le_apart (M : Int → Int) (a b x : Int) (n m : Nat) (h : b + m ≤ a ∨ a + n ≤ b) : le (stM M a n x) b m = le M b m :=
  le_congr m b fun c h1 h2 => by
    unfold stM
    rw [if_neg (by omega)]
theorem st_same {M : Int → Int} (hb : ∀ a, 0 ≤ M a ∧ M a < 256) : ∀ (n : Nat) (a : Int), stM M a n (le M a n) = M := by
  intro n a
  funext c
  unfold stM
  by_cases g : a ≤ c ∧ c < a + n
  · rw [if_pos g]
    obtain ⟨j, rfl⟩ : ∃ j : Nat, c = a + j := ⟨(c - a).toNat, by omega⟩
    rw [show (a + (j : Int) - a).toNat = j by omega]
    have key : ∀ (j n : Nat) (a : Int), j < n → le M a n / 2 ^ (8 * j) % 256 = M (a + j) := by
      intro j
      induction j with
      | zero =>
        intro n a hn
        obtain ⟨n, rfl⟩ : ∃ k, n = k + 1 := ⟨n - 1, by omega⟩
        have := hb a
        simp only [le]
        simp
        omega
      | succ j ih =>
        intro n a hn
        obtain ⟨n, rfl⟩ : ∃ k, n = k + 1 := ⟨n - 1, by omega⟩
        have h1 := hb a
        rw [show 8 * (j + 1) = 8 + 8 * j by omega, Int.pow_add, ← Int.ediv_ediv_of_nonneg (by simp)]
        have : le M a (n + 1) / 2 ^ 8 = le M (a + 1) n := by
          simp only [le]
          show (M a + 256 * le M (a + 1) n) / 256 = _
          omega
        rw [this, ih n (a + 1) (by omega), show a + 1 + (j : Int) = a + ((j + 1 : Nat) : Int) by omega]
    exact key j n a (by omega)
  · rw [if_neg g]

/-- The document's memory. -/
def RefS (mb : Nat) (M : Int → Int) : SP := fun B => ∃ m, ((∀ a, 0 ≤ M a ∧ M a < 256) ∧ (∀ a, m.lookup a = none → M a = 0) ∧ ∀ a v, m.lookup a = some v → v = .int .u8 (M a)) ∧ MapI mb .u64 m B
theorem stM_byte {a x : Int} {n : Nat} (hb : ∀ a, 0 ≤ M a ∧ M a < 256) : ∀ c, 0 ≤ stM M a n x c ∧ stM M a n x c < 256 := by
  intro c
  unfold stM
  split
  · omega
  · exact hb c
structure RefOK (M : Int → Int) (m : List (Int × Value)) : Prop where
  byte : ∀ a, 0 ≤ M a ∧ M a < 256
  none : ∀ a, m.lookup a = none → M a = 0
  some : ∀ a v, m.lookup a = some v → v = .int .u8 (M a)
theorem RefOK.put {m : List (Int × Value)} (ok : RefOK M m) {a v : Int} (hv : 0 ≤ v ∧ v < 256) : RefOK (upM M a v) (putM m a (.int .u8 v)) where
  byte c := by
    unfold upM
    split
    · exact hv
    · exact ok.byte c
  none c h := by
    rw [lookup_putM] at h
    unfold upM
    split at h
    · cases h
    · rename_i g; rw [if_neg g]; exact ok.none c h
  some c w h := by
    rw [lookup_putM] at h
    unfold upM
    split at h
    · rename_i g; rw [if_pos g]; cases h; rfl
    · rename_i g; rw [if_neg g]; exact ok.some c w h
theorem rStore_head {R : List SP} {mb : Nat} {f0 : Int} {s0 : Sl} {a x : Int} {n : Nat} {Q : AH → Prop} (h : Own (RefS mb M :: R) A) (hn : n ≤ 8) (ha : 0 ≤ a ∧ a + n ≤ 18446744073709551616) (hx : U64 x)
    (hk : ∀ A', Own (RefS mb (stM M a n x) :: R) A' → Q A') : demesneref01_Store_A f0 s0 (some mb) a n x Q A := by
  unfold demesneref01_Store_A
  refine ⟨fun q m h' => ∃ j : Nat, q = j ∧ j ≤ n ∧ m = n - j ∧ Own (RefS mb (stM M a j x) :: R) h', ⟨n, 0, rfl, by omega, by omega, ?_⟩, ?_⟩
  · have : stM M a 0 x = M := by funext c; unfold stM; rw [if_neg (by omega)]
    rw [this]
    exact h
  intro q m h' ⟨j, e1, e2, e3, ho⟩
  subst e1 e3
  refine bsel_in (fun c => ?_) fun c => ?_
  · have c : j < n := by simp at c; omega
    rw [w64 (n := 8 * (j : Int)) (by omega) (by omega)]
    refine bsel_f (by simp; omega) ?_
    have hat : IntKind.wrap .u64 (a + IntKind.wrap .u64 (j : Int)) = a + j := by rw [wu64 (n := (j : Int)) (by omega) (by omega), wu64] <;> omega
    have hb := shr_bound (8 * j) hx.1 hx.2
    have hv : IntKind.wrap .u8 (bits .and .u64 (Int.fdiv x (2 ^ (min (Int.toNat (8 * (j : Int))) 64))) 255) = x / 2 ^ (8 * j) % 256 := by
      rw [shr_eq, show min (Int.toNat (8 * (j : Int))) 64 = 8 * j by omega, and255 hb.1 hb.2, wu8]; omega
    rw [hat, hv]
    obtain ⟨mm, ho⟩ := ho.ex
    obtain ⟨b1, ho⟩ := ho.pure
    refine st_M (i := 0) ho rfl fun A2 h2 => ?_
    refine ⟨n - (j + 1), by omega, j + 1, by rw [w64] <;> omega, by omega, rfl, ?_⟩
    have b2 := (RefOK.mk b1.1 b1.2.1 b1.2.2).put (a := a + j) (v := x / 2 ^ (8 * j) % 256) (by omega)
    rw [stM_succ] at b2
    exact Own.imp (P := MapI mb .u64 (putM mm (a + j) (.int .u8 (x / 2 ^ (8 * j) % 256)))) (fun B hB => ⟨_, ⟨b2.byte, b2.none, b2.some⟩, hB⟩) h2
  · have : j = n := by simp at c; omega
    subst this
    exact hk _ ho
theorem rStore_spec {mb i : Nat} {f0 : Int} {s0 : Sl} {a x : Int} {n : Nat} {Q : AH → Prop} (h : Own l A) (e : l[i]? = some (RefS mb M)) (hn : n ≤ 8) (ha : 0 ≤ a ∧ a + n ≤ 18446744073709551616) (hx : U64 x)
    (hk : ∀ A', Own (l.set i (RefS mb (stM M a n x))) A' → Q A') : demesneref01_Store_A f0 s0 (some mb) a n x Q A :=
  rStore_head (h.pick i e) hn ha hx fun A' h' => hk A' (Own.back i e h')
theorem RefS.open {mb i : Nat} (h : Own l A) (e : l[i]? = some (RefS mb M)) : ∃ m, RefOK M m ∧ Own [MapI mb .u64 m] A := by
  have h := h.pick i e
  obtain ⟨m, h⟩ := h.ex
  obtain ⟨b1, h⟩ := h.pure
  exact ⟨m, ⟨b1.1, b1.2.1, b1.2.2⟩, h.cons fun _ _ => True.intro⟩
theorem rword_u64 {mb i : Nat} (h : Own l A) (e : l[i]? = some (RefS mb M)) (a : Int) : U64 (le M a 8) := by
  obtain ⟨m, ok, _⟩ := RefS.open h e
  have := le_bound ok.byte 8 a
  exact ⟨this.1, this.2⟩
theorem rLoad_spec {mb i : Nat} {f0 : Int} {s0 : Sl} {a : Int} {n : Nat} {Q : Int → AH → Prop} (h : Own l A) (e : l[i]? = some (RefS mb M)) (hn : n ≤ 8) (ha : 0 ≤ a ∧ a + n ≤ 18446744073709551616)
    (hk : Q (le M a n) A) : demesneref01_Load_A f0 s0 (some mb) a n Q A := by
  obtain ⟨mm, ok, ho⟩ := RefS.open h e
  unfold demesneref01_Load_A
  refine ⟨fun y q m h' => h' = A ∧ ∃ j : Nat, q = j ∧ j ≤ n ∧ m = n - j ∧ y = le M a j, ⟨n, rfl, 0, rfl, by omega, by omega, rfl⟩, ?_⟩
  intro y q m h' ⟨e0, j, e1, e2, e3, e4⟩
  subst e0 e1 e3 e4
  refine bsel_in (fun c => ?_) fun c => ?_
  · have c : j < n := by simp at c; omega
    rw [w64 (n := 8 * (j : Int)) (by omega) (by omega)]
    have hat : IntKind.wrap .u64 (a + IntKind.wrap .u64 (j : Int)) = a + j := by rw [wu64 (n := (j : Int)) (by omega) (by omega), wu64] <;> omega
    rw [hat]
    refine lk_M (i := 0) ho rfl ?_
    have hv : (mm.lookup (a + j)).getD (.int .u8 0) = .int .u8 (M (a + j)) := by
      cases g : mm.lookup (a + j) with
      | none => rw [ok.none _ g]; rfl
      | some v => exact ok.some _ _ g
    refine ⟨M (a + j), hv, bsel_f (by simp; omega) ?_⟩
    have hb := ok.byte (a + j)
    have hl := le_bound ok.byte (j + 1) a
    have hl0 := le_bound ok.byte j a
    have hp : (256 : Int) ^ (j + 1) ≤ 18446744073709551616 := by
      have h2 : (256 : Nat) ^ (j + 1) ≤ 256 ^ 8 := Nat.pow_le_pow_right (by omega) (by omega)
      have h4 : (((256 : Nat) ^ (j + 1) : Nat) : Int) ≤ ((256 ^ 8 : Nat) : Int) := by omega
      simpa using h4
    have hs := le_snoc M j a
    have h256 : (2 : Int) ^ (8 * j) = 256 ^ j := by rw [Int.pow_mul]; rfl
    have hpos : 0 ≤ M (a + j) * 256 ^ j := Int.mul_nonneg hb.1 (Int.pow_nonneg (by omega))
    refine ⟨n - (j + 1), by omega, rfl, j + 1, by rw [w64] <;> omega, by omega, rfl, ?_⟩
    rw [show min (Int.toNat (8 * (j : Int))) 64 = 8 * j by omega, h256, wu64 (n := M (a + j)) (by omega) (by omega), wu64 (n := M (a + j) * 256 ^ j) hpos (by omega), wu64 (by omega) (by omega), hs]
  · have : j = n := by simp at c; omega
    subst this
    exact hk
theorem rHas_spec {i : Nat} {s : Sl} {m0 : Option Nat} {f : Int} {Q : Bool → AH → Prop} (h : Own l A) (e : l[i]? = some (SlAt s 2 (holeCells hs))) (hl : hs.length ≤ 64) (hk : Q (hasF fr hs f) A) : demesneref01_Has_A fr s m0 f Q A := by
  have hlen : s.len * 2 = hs.length * 2 := by rw [← holeCells_len]; exact sl_len h e
  have hlen : s.len = hs.length := by omega
  unfold demesneref01_Has_A
  have hin : ∀ (c : Bool), c = (decide (0 ≤ f) && decide (f < fr)) → ∃ I5 : Bool → Int → Nat → AH → Prop, (∃ m6, I5 c (0 : Int) m6 A) ∧ ∀ b9 : Bool, ∀ x10 : Int, ∀ m6 h8, I5 b9 x10 m6 h8 → 
(bsel (decide (x10 < (Int.ofNat s.len)))
(∃ R11 : Bool → AH → Prop, (∀ b16 : Bool, ∀ h17, R11 b16 h17 → 
(∃ m7, m7 < m6 ∧ I5 b16 (IntKind.wrap .i64 (x10 + (1 : Int))) m7 h17)) ∧
(onSome s.a fun a12 =>
(inB x10 s.len
(aI .i64 (Addr.add a12 (Int.toNat x10 * 2)) h8 fun n13 =>
(aI .i64 (Addr.add (Addr.add a12 (Int.toNat x10 * 2)) 1) h8 fun n14 =>
(bsel b9
(bsel (decide (n13 ≤ f))
(R11 (!(decide (f < n14))) h8)
(R11 true h8))
(R11 false h8)))))))
(Q b9 h8)) := by
    intro c hc
    refine ⟨fun b x m h' => h' = A ∧ ∃ j : Nat, x = j ∧ j ≤ hs.length ∧ m = hs.length - j ∧ b = (c && (hs.take j).all fun p => !(decide (p.1 ≤ f) && decide (f < p.2))), ⟨_, rfl, 0, rfl, by omega, rfl, by simp⟩, ?_⟩
    intro b x m h' ⟨e1, j, e2, e3, e4, e5⟩
    subst e1 e2
    refine bsel_in (fun c3 => ?_) fun c3 => ?_
    · simp [hlen] at c3
      obtain ⟨p, hp⟩ : ∃ p, hs[j]? = some p := ⟨hs[j], by simp [c3]⟩
      obtain ⟨h1, h2⟩ := holeCells_at hp
      obtain ⟨b', o, g1, g2⟩ := sl_cell h e h1
      obtain ⟨b'', o', g3, g4⟩ := sl_cell h e h2
      rw [g1] at g3
      cases g3
      refine ⟨fun b2 h2 => h2 = h' ∧ b2 = (c && (hs.take (j + 1)).all fun p => !(decide (p.1 ≤ f) && decide (f < p.2))), ?_, ?_⟩
      · intro b2 h2 ⟨q1, q2⟩
        subst q1
        exact ⟨hs.length - (j + 1), by omega, rfl, j + 1, by rw [w64] <;> omega, by omega, rfl, q2⟩
      rw [g1]
      refine inB_in (by omega) (by simp [hlen]; omega) ⟨p.1, ?_, p.2, ?_, ?_⟩
      · rw [add_at]; simpa using g2
      · rw [add_at, add_at]; simpa [Nat.add_assoc] using g4
      have hall : (hs.take (j + 1)).all (fun p => !(decide (p.1 ≤ f) && decide (f < p.2))) = ((hs.take j).all (fun p => !(decide (p.1 ≤ f) && decide (f < p.2))) && !(decide (p.1 ≤ f) && decide (f < p.2))) := by
        rw [List.take_add_one, hp]
        simp [List.all_append]
      rw [hall, ← Bool.and_assoc, ← e5]
      refine bsel_in (fun q => ?_) fun q => ?_
      · refine bsel_in (fun q2 => ⟨rfl, ?_⟩) fun q2 => ⟨rfl, ?_⟩
        · simp at q2; simp [q, q2]
        · simp at q2; simp [q]; omega
      · exact ⟨rfl, by simp [q]⟩
    · simp [hlen] at c3
      have : j = hs.length := by omega
      subst this
      rw [List.take_length, hc] at e5
      rw [e5]
      exact hk
  refine ⟨fun b h' => h' = A ∧ b = (decide (0 ≤ f) && decide (f < fr)), fun b h' ⟨e1, e2⟩ => by subst e1; exact hin b e2, ?_⟩
  refine bsel_in (fun c => ⟨rfl, ?_⟩) fun c => ⟨rfl, ?_⟩
  · simp at c; simp [c]
  · simp at c; simp; omega
end Go.Dn
