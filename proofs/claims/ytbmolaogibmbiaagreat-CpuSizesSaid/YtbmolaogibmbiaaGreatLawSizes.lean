/- The law CpuSizes: numbers are stored and loaded by their parts. -/
import Derived.Test.YtbmolaogibmbiaaGreatOne
namespace Go.Dn

variable {A : AH} {l R : List SP} {c : Mb} {u : Int} {F G : Int → Prop} {W : Int → Int → Int} {z : PcZ} {ls : List Ln} {sps : List (Int × Value)} {cp n : Nat} {L : List Sp} {D : Int → Int → Int}
theorem cpu_mF {K : Option Addr → Prop} (h : Own (MacL c F G W u ls z sps (famR cp c.m n L l)) A) (hk : K (some ⟨c.m, 0, none⟩)) : aP ⟨cp, 0, none⟩ A K := by
  have h1 : Own (CpuS cp c.m n :: MacL c F G W u ls z sps (L.map Sp.own ++ l)) A := by
    unfold MacL StdO at h ⊢
    exact h.pick 7 rfl
  obtain ⟨s, ch, at_, _, h2⟩ := CpuS.openH h1
  exact ld_P (i := 0) h2 rfl rfl hk
theorem One1.rest {id : Int} {regs : List Reg} {ps : List Int} (h : One1 c cp n id regs ps D l A) : Own l A := by
  obtain ⟨F, G, W, u, ls, z, sps, a, _, _, _, _, _, _, h⟩ := h
  exact (MacL.rest h).tail.tail
/-- A space is opened, and its first pages come. -/
theorem Start1 {id : Int} {y : Reg} {ps : List Int} {X : Prop} {Y Z R : AH → Prop} (h : Own (MacL c F G W 2 ls z sps (famR cp c.m n [] l)) A) (hs : SpsOK sps []) (hf : FamOK c.N F G W z ls []) (hkn : 0 ≤ c.kern ∧ c.kern < c.N) (hN : c.N ≤ 262144) (hid : 0 ≤ id) (hb : rightB y.a y.b = true) (hy : y.k = 0) (hps : 3 + 4 * (ps.length : Int) + 5 ≤ c.N)
    (hk : ∀ A', One1 c cp n id [y] ps (fun _ _ => 0) l A' → R A') :
    bsel (!true) X (onSome (some ⟨cp, 0, none⟩) fun a12 => aP a12 A fun pt13 => space_Machine_Open_A pt13 id 0 (fun n14 h15 => bsel (n14 != 0) (Y h15) (onSome (some ⟨cp, 0, none⟩) fun a16 => aP a16 h15 fun pt17 => space_Machine_Map_A pt17 id y.a y.b y.w y.u y.x (fun n18 h19 => bsel (n18 != 0) (Z h19) (R h19)) h15)) A) := by
  refine bsel_f rfl (cpu_mF h ?_)
  refine OpenF h hs hf hid (fun a ha => by simp at ha) ⟨by omega, by omega⟩ hN hkn fun p root sps' F' G' W' A1 hs1 hf1 _ _ _ _ h1 => bsel_f rfl ?_
  refine cpu_mF h1 ?_
  refine MapF (pre := []) (post := []) (a := Sp.new id p root) h1 hs1 hf1 rfl rfl (fun _ => rfl) hb hy fun s A2 hs2 hf2 h2 => bsel_f rfl (hk A2 ?_)
  refine ⟨F', G', W', 2 + 1, ls, z, sps', (Sp.new id p root).with1 s y, rfl, rfl, hf2, hs2, ⟨fun q x hx => (by cases hx), fun _ _ _ => rfl, fun q q' x x' hx => (by cases hx)⟩, ⟨by omega, ?_⟩, h2⟩
  have : cntP ((Sp.new id p root).with1 s y).lf ps ≤ ps.length := List.length_filter_le _ _
  omega
theorem awake13_spec {Q : Bool → AH → Prop} (h : Own l A) (hk : ∀ A', Own l A' → Q true A') : demesnelaw13_awake_A Q A := by
  unfold demesnelaw13_awake_A demesnelaw13_awake_G
  refine new_C (cs := [.int .i64 1, .int .i64 2]) h fun b1 A1 h1 => ?_
  have hr : Reads (At b1 [.int .i64 1, .int .i64 2]) ⟨some ⟨b1, 0, none⟩, 2, 2⟩ 1 (([1, 2] : List Int).map (.int .i64)) := reads_at (rest := []) (cs := [.int .i64 1, .int .i64 2]) (n := 2) rfl
  refine Begin13_spec (k := 0) (N := 20) (tags := 5) h1 rfl hr (fun g => by cases g) (by simp) ⟨by omega, by omega⟩ ⟨by omega, by omega⟩ fun c F G W cp b mp A2 hcN hf hkn h2 => ?_
  refine ⟨fun A' => One1 c cp 2 1 [⟨0, 2, true, true, false, 0⟩] [0, 1] (fun _ _ => 0) (At b [.int .i64 0, .int .i64 (-1), .int .i64 (20 - 1), .int .i64 2] :: At b1 [.int .i64 1, .int .i64 2] :: l) A', fun A3 h3 => ?_, ?_⟩
  · have f0 : findR [(⟨0, 2, true, true, false, 0⟩ : Reg)] (8 / 4096) = some ⟨0, 2, true, true, false, 0⟩ := rfl
    have f2 : findR [(⟨0, 2, true, true, false, 0⟩ : Reg)] (8192 / 4096) = none := rfl
    refine Do1 (size := 8) h3 (by omega) ⟨by omega, by omega⟩ (by omega) (by omega) (fun _ => by decide) (fun g => ?_) (fun g => by cases g) fun _ y hy _ A4 h4 => ?_
    · have := g _ f0
      cases this
    refine Do1 (size := 8) h4 (by omega) ⟨by omega, by omega⟩ (by omega) (by omega) (fun _ => by decide) (fun g => ?_) (fun _ y hy _ A5 h5 => ?_) (fun g => by cases g)
    · have := g _ f0
      cases this
    refine Do1 (size := 8) h5 (by omega) ⟨by omega, by omega⟩ (by omega) (by omega) (fun g => absurd f2 g) (fun _ A6 h6 t ht => ?_) (fun _ y hy => by rw [f2] at hy; cases hy) (fun g => by cases g)
    rw [ht f2]
    refine bsel_t rfl (bsel_t rfl (bsel_t (by decide) (bsel_t rfl ?_)))
    exact hk A6 (One1.rest h6).tail.tail
  · exact Start1 (y := ⟨0, 2, true, true, false, 0⟩) h2 (fun _ => rfl) hf (by omega) (by omega) (by omega) rfl rfl (by simp; omega) fun A3 h3 => h3
theorem nat_mul_mod (x a b : Nat) : x % a + a * (x / a % b) = x % (a * b) := (Nat.mod_mul).symm
theorem sizes_step {x : Int} (hx : U64 x) {i m : Nat} (h : i + m ≤ 8) : bits .or .u64 (x % 256 ^ i) (IntKind.wrap .u64 (getB x i m * 2 ^ (min (8 * i) 64))) = x % 256 ^ (i + m) := by
  obtain ⟨h0, h1⟩ := hx
  obtain ⟨x, rfl⟩ := Int.eq_ofNat_of_zero_le h0
  unfold getB
  have e0 : min (8 * i) 64 = 8 * i := by omega
  have e1 : ∀ k : Nat, (256 : Int) ^ k = ((2 ^ (8 * k) : Nat) : Int) := fun k => by rw [p256e]; simp
  rw [e0, e1 i, e1 m, e1 (i + m), show (2 : Int) ^ (8 * i) = ((2 ^ (8 * i) : Nat) : Int) by simp]
  have e2 : (x : Int) / ((2 ^ (8 * i) : Nat) : Int) % ((2 ^ (8 * m) : Nat) : Int) = ((x / 2 ^ (8 * i) % 2 ^ (8 * m) : Nat) : Int) := by rw [Int.natCast_emod, Int.natCast_ediv]
  have e3 : (x : Int) % ((2 ^ (8 * i) : Nat) : Int) = ((x % 2 ^ (8 * i) : Nat) : Int) := (Int.natCast_emod _ _).symm
  have e4 : (x : Int) % ((2 ^ (8 * (i + m)) : Nat) : Int) = ((x % 2 ^ (8 * (i + m)) : Nat) : Int) := (Int.natCast_emod _ _).symm
  rw [e2, e3, e4]
  have e5 := nat_mul_mod x (2 ^ (8 * i)) (2 ^ (8 * m))
  rw [← Nat.pow_add, show 8 * i + 8 * m = 8 * (i + m) by omega] at e5
  have e6 : x % 2 ^ (8 * (i + m)) ≤ x := Nat.mod_le _ _
  generalize hq : x / 2 ^ (8 * i) % 2 ^ (8 * m) = q at *
  have hp : 0 < 2 ^ (8 * i) := Nat.two_pow_pos _
  have hlt := Nat.mod_lt x hp
  generalize x % 2 ^ (8 * i) = r at *
  generalize x % 2 ^ (8 * (i + m)) = t at *
  rw [Int.mul_comm, show ((2 ^ (8 * i) : Nat) : Int) * (q : Int) = ((2 ^ (8 * i) * q : Nat) : Int) from (Int.natCast_mul _ _).symm, wu64 (by omega) (by omega)]
  rw [Int.natCast_mul, or_high (8 * i) ⟨by omega, by omega⟩ (by omega) (by rw [← Int.natCast_mul]; omega), ← Int.natCast_mul]
  omega
theorem put_low {x y : Int} {m : Nat} (k : Nat) (hk : k = 8 * m) (hm : m ≤ 7) (hx : U64 x) (hy : U64 y) (mask : Int) (hmk : mask = ((2 ^ k - 1 : Nat) : Int)) : bits .or .u64 (bits .andNot .u64 x mask) (bits .and .u64 y mask) = putB x 0 m y := by
  have e1 : (256 : Int) ^ m = ((2 ^ k : Nat) : Int) := by rw [p256e, hk]; simp
  rw [andNot_mask k mask hmk (by omega) hx, and_mask k mask hmk (by omega) hy.1 hy.2]
  have hp : 0 < (2 : Nat) ^ k := Nat.two_pow_pos _
  have h1 : 0 ≤ y % ((2 ^ k : Nat) : Int) ∧ y % ((2 ^ k : Nat) : Int) < ((2 ^ k : Nat) : Int) := ⟨Int.emod_nonneg _ (by omega), Int.emod_lt_of_pos _ (by omega)⟩
  have h2 : 0 ≤ x / ((2 ^ k : Nat) : Int) := Int.ediv_nonneg hx.1 (by omega)
  have h3 : ((2 ^ k : Nat) : Int) * (x / ((2 ^ k : Nat) : Int)) + ((2 ^ k : Nat) : Int) ≤ 18446744073709551616 := by
    have hd : (18446744073709551616 : Int) = ((2 ^ k : Nat) : Int) * ((2 ^ (64 - k) : Nat) : Int) := by
      rw [← Int.natCast_mul, ← Nat.pow_add, show k + (64 - k) = 64 by omega]; rfl
    have h4 : x / ((2 ^ k : Nat) : Int) < ((2 ^ (64 - k) : Nat) : Int) := Int.ediv_lt_of_lt_mul (by omega) (by rw [Int.mul_comm, ← hd]; exact hx.2)
    rw [hd]
    have := Int.mul_le_mul_of_nonneg_left (show x / ((2 ^ k : Nat) : Int) + 1 ≤ ((2 ^ (64 - k) : Nat) : Int) by omega) (show (0 : Int) ≤ ((2 ^ k : Nat) : Int) by omega)
    rw [Int.mul_add, Int.mul_one] at this
    exact this
  rw [or_high' k h1 h2 (by omega)]
  unfold putB
  rw [Nat.zero_add, e1]
  simp [Int.emod_one]
theorem CpuSizes_spec {k : Nat} {P : SP} {s : Sl} {ch : List Int} {at_ x y size : Int} {Q : Bool → AH → Prop} (h : Own l A) (e : l[k]? = some P) (hr : Reads P s 1 (ch.map (.int .i64))) (hcap : s.len ≤ s.cap) (hn : s.a = none → ch = []) (hx : U64 x) (hy : U64 y)
    (hk : ∀ A', Own l A' → Q true A') : demesnelaw13_CpuSizes_A s at_ x y size Q A := by
  unfold demesnelaw13_CpuSizes_A demesnelaw13_CpuSizes_G
  have fin : demesnelaw13_awake_A (fun b h' => Q b h') A := awake13_spec h fun A' h' => hk A' h'
  refine ⟨fun A' => A' = A ∧ (0 ≤ at_ ∧ at_ ≤ 1000) ∧ (size = 1 ∨ size = 2 ∨ size = 4 ∨ size = 8), fun A1 ⟨eA, hat, hsz⟩ => ?_, ?_⟩
  · subst eA
    obtain ⟨m, rfl⟩ : ∃ m : Nat, size = m := ⟨size.toNat, by omega⟩
    have hm : m = 1 ∨ m = 2 ∨ m = 4 ∨ m = 8 := by omega
    have ep : IntKind.wrap .u64 (IntKind.wrap .i64 (8 * at_)) = 8 * at_ := by rw [w64 (by omega) (by omega), wu64 (by omega) (by omega)]
    rw [ep]
    obtain ⟨p, hp⟩ : ∃ p, 8 * at_ = p := ⟨_, rfl⟩
    rw [hp]
    have hp0 : 0 ≤ p ∧ p ≤ 8000 ∧ p % 8 = 0 := by omega
    refine few_spec (m := 60) h e hr hcap hn (by omega) fun s9 A2 hn9 h2 => ?_
    refine Begin13_spec (k := 0) (N := 20) (tags := 2) h2 rfl reads_slC hn9 (by simp; omega) ⟨by omega, by omega⟩ ⟨by omega, by omega⟩ fun c F G W cp b mp A3 hcN hf hkn h3 => ?_
    refine ⟨fun A' => One1 c cp (ch.take 60).length 1 [⟨0, 2, true, true, false, 0⟩] [0, 1] (fun _ _ => 0) (At b [.int .i64 0, .int .i64 (-1), .int .i64 (20 - 1), .int .i64 2] :: SlO s9 1 ((ch.take 60).map (.int .i64)) :: l) A', fun A4 h4 => ?_, ?_⟩
    · have hpg : ∀ a : Int, p ≤ a → a < p + 8 → a / 4096 = p / 4096 ∧ a % 4096 / 8 = p % 4096 / 8 ∧ (a % 4096 % 8).toNat = (a - p).toNat := fun a h1 h2 => by omega
      have hf1 : ∀ q : Int, q = p / 4096 → findR [(⟨0, 2, true, true, false, 0⟩ : Reg)] q = some ⟨0, 2, true, true, false, 0⟩ := fun q hq => by
        have : q = 0 ∨ q = 1 := by omega
        rcases this with rfl | rfl <;> rfl
      have hin : ∀ q : Int, q = p / 4096 → q ∈ ([0, 1] : List Int) := fun q hq => by
        have : q = 0 ∨ q = 1 := by omega
        rcases this with rfl | rfl <;> simp
      obtain ⟨q1, q2, q3⟩ := hpg p (by omega) (by omega)
      have hU0 : U64 (0 : Int) := ⟨by omega, by omega⟩
      refine Do1 (size := 8) h4 (by omega) ⟨by omega, by omega⟩ (by omega) (by omega) (fun _ => hin _ rfl) (fun g => ?_) (fun g => by cases g) fun _ y1 hy1 _ A5 h5 => ?_
      · have := g _ (hf1 _ rfl)
        cases this
      rw [q3, show (p - p).toNat = 0 by omega, put_all hU0 hx] at h5
      generalize hD : setD (fun _ _ => 0) (p / 4096) (p % 4096 / 8) x = D1 at h5
      have hDx : D1 (p / 4096) (p % 4096 / 8) = x := by rw [← hD]; unfold setD; rw [if_pos ⟨rfl, rfl⟩]
      refine ⟨fun x38 x39 mm A' => ∃ j : Nat, x39 = (j * m : Nat) ∧ j * m ≤ 8 ∧ mm = 8 - j * m ∧ x38 = x % 256 ^ (j * m) ∧ One1 c cp (ch.take 60).length 1 [⟨0, 2, true, true, false, 0⟩] [0, 1] D1 (At b [.int .i64 0, .int .i64 (-1), .int .i64 (20 - 1), .int .i64 2] :: SlO s9 1 ((ch.take 60).map (.int .i64)) :: l) A',
        ⟨8, 0, by simp, by omega, by omega, by simp [Int.emod_one], h5⟩, ?_⟩
      intro x38 x39 mm A6 ⟨j, e1, e2, e3, e4, h6⟩
      subst e1 e3 e4
      have hdiv : ∃ t, 8 = t * m := by
        rcases hm with rfl | rfl | rfl | rfl
        · exact ⟨8, rfl⟩
        · exact ⟨4, rfl⟩
        · exact ⟨2, rfl⟩
        · exact ⟨1, rfl⟩
      refine bsel_in (fun g => ?_) fun g => ?_
      · have g : ((j * m : Nat) : Int) < 8 := of_decide_eq_true g
        have hjm : j * m + m ≤ 8 := by
          obtain ⟨t, ht⟩ := hdiv
          have h1 : j * m < t * m := by omega
          have h2 : j < t := Nat.lt_of_mul_lt_mul_right h1
          have h3 : (j + 1) * m ≤ t * m := Nat.mul_le_mul_right m h2
          rw [Nat.add_mul] at h3
          omega
        obtain ⟨i, hi⟩ : ∃ i : Nat, j * m = i := ⟨_, rfl⟩
        have hmod : i % m = 0 := by rw [← hi]; exact Nat.mul_mod_left j m
        have hjm1 : (j + 1) * m = i + m := by rw [Nat.add_mul, hi]; omega
        rw [hi] at g hjm e2 ⊢
        rw [wu64 (n := (i : Int)) (by omega) (by omega), wu64 (n := p + (i : Int)) (by omega) (by omega)]
        obtain ⟨r1, r2, r3⟩ := hpg (p + i) (by omega) (by omega)
        have hdm : (p + i) % (m : Int) = 0 := by rcases hm with rfl | rfl | rfl | rfl <;> omega
        refine Do1 (size := m) h6 (by omega) ⟨by omega, by omega⟩ hm hdm (fun _ => hin _ r1) (fun g => ?_) (fun _ y1 hy1 _ A7 h7 => ?_) (fun g => by cases g)
        · have := g _ (hf1 _ r1)
          cases this
        refine bsel_f rfl ?_
        rw [w64 (n := 8 * (i : Int)) (by omega) (by omega)]
        refine bsel_f (by simp; omega) ?_
        rw [r1, r2, r3, hDx, show (p + (i : Int) - p).toNat = i by omega, show (8 * (i : Int)).toNat = 8 * i by omega, sizes_step hx (by omega), w64 (n := (i : Int) + m) (by omega) (by omega)]
        exact ⟨8 - (i + m), by omega, j + 1, by rw [hjm1]; omega, by omega, by rw [hjm1], by rw [hjm1], h7⟩
      · have g : ¬((j * m : Nat) : Int) < 8 := of_decide_eq_false g
        have hj8 : j * m = 8 := by omega
        rw [hj8, show x % 256 ^ 8 = x from Int.emod_eq_of_lt hx.1 (by have := hx.2; omega)]
        refine Do1 (size := m) h6 (by omega) ⟨by omega, by omega⟩ hm (by rcases hm with rfl | rfl | rfl | rfl <;> omega) (fun _ => hin _ rfl) (fun g => ?_) (fun g => by cases g) fun _ y1 hy1 _ A7 h7 => ?_
        · have := g _ (hf1 _ rfl)
          cases this
        rw [q3, show (p - p).toNat = 0 by omega, hDx] at h7
        refine Do1 (size := 8) h7 (by omega) ⟨by omega, by omega⟩ (by omega) (by omega) (fun _ => hin _ rfl) (fun g => ?_) (fun _ y1 hy1 _ A8 h8 => ?_) (fun g => by cases g)
        · have := g _ (hf1 _ rfl)
          cases this
        have hz : setD D1 (p / 4096) (p % 4096 / 8) (putB x 0 m y) (p / 4096) (p % 4096 / 8) = putB x 0 m y := by unfold setD; rw [if_pos ⟨rfl, rfl⟩]
        rw [q3, show (p - p).toNat = 0 by omega, hz]
        have h9 := (One1.rest h8).tail.tail
        have done : ∀ w, getB (putB x 0 m y) 0 8 = w → demesnelaw13_awake_A (fun b58 h59 => bsel b58 (bsel ((0 : Int) == 0) (bsel ((0 : Int) == 0) (bsel ((0 : Int) == 0) (bsel (x == x) (Q (getB (putB x 0 m y) 0 8 == w) h59) (Q false h59)) (Q false h59)) (Q false h59)) (Q false h59)) (Q false h59)) A8 := fun w hw => by
          refine awake13_spec h9 fun A9 h10 => bsel_t rfl (bsel_t rfl (bsel_t rfl (bsel_t rfl (bsel_t (by simp) ?_))))
          rw [hw]
          have : (w == w) = true := by simp
          rw [this]
          exact hk A9 h10
        have hpu : U64 (putB x 0 m y) := by
          rcases hm with rfl | rfl | rfl | rfl <;> (unfold putB U64; have := hx.1; have := hx.2; have := hy.1; have := hy.2; simp; omega)
        rw [get_all hpu] at done ⊢
        refine ⟨fun w A' => w = putB x 0 m y ∧ A' = A8, fun w A9 ⟨e5, e6⟩ => by subst e5 e6; exact done _ rfl, ?_⟩
        rcases hm with rfl | rfl | rfl | rfl
        · exact bsel_t rfl (bsel_f rfl ⟨put_low (m := 1) 8 rfl (by omega) hx hy 255 rfl, rfl⟩)
        · exact bsel_t rfl (bsel_f rfl ⟨put_low (m := 2) 16 rfl (by omega) hx hy 65535 rfl, rfl⟩)
        · exact bsel_t rfl (bsel_f rfl ⟨put_low (m := 4) 32 rfl (by omega) hx hy 4294967295 rfl, rfl⟩)
        · exact bsel_f rfl ⟨(put_all hx hy).symm, rfl⟩
    · exact Start1 (y := ⟨0, 2, true, true, false, 0⟩) h3 (fun _ => rfl) hf (by omega) (by omega) (by omega) rfl rfl (by simp; omega) fun A4 h4 => h4
  · refine bsel_in (fun _ => fin) fun g1 => bsel_in (fun _ => fin) fun g2 => ?_
    have g1 := of_decide_eq_false g1
    have g2 := of_decide_eq_false g2
    have ne : ∀ {v : Int}, (size != v) = false → size = v := fun {v} q => by simpa using q
    refine bsel_in (fun g3 => bsel_in (fun g4 => bsel_in (fun g5 => bsel_in (fun _ => fin) fun g => ⟨rfl, by omega, .inr (.inr (.inr (ne g)))⟩) fun g => ⟨rfl, by omega, .inr (.inr (.inl (ne g)))⟩) fun g => ⟨rfl, by omega, .inr (.inl (ne g))⟩) fun g => ⟨rfl, by omega, .inl (ne g)⟩
end Go.Dn
