/- Printed by gen.py: what each function does, over a part of the heap, its boxes apart; that it does so. -/
import Derived.Test.YtnjbnhciheeboaaDnL
import Derived.Test.YtnjbnhciheeboaaF
namespace Go.Dn

/- demesne/ram.New -/
def ram_New_A (p0 : Int) (p1 : Sl) (Q : Option Addr → Int → AH → Prop) (h : AH) : Prop :=
(bsel (decide (p0 < (1 : Int)))
(Q none (1 : Int) h)
(bsel (decide (p0 > (1048576 : Int)))
(Q none (4 : Int) h)
(bsel (decide ((Int.ofNat p1.len) > (64 : Int)))
(Q none (4 : Int) h)
(∃ I1 : Int → Nat → AH → Prop, (∃ m2, I1 (0 : Int) m2 h) ∧ ∀ x5 : Int, ∀ m2 h4, I1 x5 m2 h4 → 
(bsel (decide (x5 < (Int.ofNat p1.len)))
(onSome p1.a fun a6 =>
(inB x5 p1.len
(aI .i64 (Addr.add a6 (Int.toNat x5 * 2)) h4 fun n7 =>
(aI .i64 (Addr.add (Addr.add a6 (Int.toNat x5 * 2)) 1) h4 fun n8 =>
(bsel (decide (n7 < (0 : Int)))
(Q none (3 : Int) h4)
(bsel (decide (n8 < n7))
(Q none (3 : Int) h4)
(bsel (decide (n8 > p0))
(Q none (3 : Int) h4)
(∃ m3, m3 < m2 ∧ I1 (IntKind.wrap .i64 (x5 + (1 : Int))) m3 h4))))))))
(apA 2 16 #[(.int .i64 (0 : Int)), (.int .i64 (0 : Int))] 65 Sl.nil p1 h4 fun s10 h11 =>
(newA h11 (.map #[] 0) fun b12 h13 =>
(newA h13 (.cells #[(.int .i64 p0), (.slice s10.a s10.len s10.cap), (.map (some b12))] 100) fun b14 h15 =>
(Q (some (Addr.mk b14 0 none)) (0 : Int) h15)))))))))
set_option maxHeartbeats 4000000 in
theorem ram_New_pro {Z : Nat → Prop} {A : AH} {L : Bx} {h : Hp} {p0 : Int} {p1 : Sl} {Q : Option Addr → Int → Hp → Prop} {Q2 : Option Addr → Int → AH → Prop} (hq : ∀ r0 r1 A h, Sim Z A L h → Q2 r0 r1 A → Q r0 r1 h) (s : Sim Z A L h) (hh : ram_New_A p0 p1 Q2 A) : ram_New p0 p1 Q h := by
  unfold ram_New_A at hh
  unfold ram_New
  exact (bsel_pro hh (fun hh =>
(hq _ _ _ _ s hh)) (fun hh =>
(bsel_pro hh (fun hh =>
(hq _ _ _ _ s hh)) (fun hh =>
(bsel_pro hh (fun hh =>
(hq _ _ _ _ s hh)) (fun hh =>
(match hh with | ⟨I1, ⟨q0, q1⟩, q2⟩ => ⟨fun x5 m h => ∃ A, Sim Z A (L) h ∧ I1 x5 m A, ⟨q0, _, s, q1⟩, fun x5 m2 h ⟨h4, s, q3⟩ => (have hh := q2 x5 m2 h4 q3;
(bsel_pro hh (fun hh =>
(onSome_pro hh fun a6 hh =>
(inB_pro hh fun hh =>
(aI_pro s hh fun n7 hh =>
(aI_pro s hh fun n8 hh =>
(box_new s fun b9 _ s =>
(box_set (i := 0) s rfl rfl rfl fun _ s =>
(box_set (i := 0) s rfl rfl rfl fun _ s =>
(have s : Sim _ _ ((b9, [(.int .i64 n7), (.int .i64 n8)], 65) :: L) _ := s;
(box_I (i := 0) s rfl rfl
(bsel_pro hh (fun hh =>
(hq _ _ _ _ (s.keep (.cons _ (List.Sublist.refl _))) hh)) (fun hh =>
(box_I (i := 0) s rfl rfl
(box_I (i := 0) s rfl rfl
(bsel_pro hh (fun hh =>
(hq _ _ _ _ (s.keep (.cons _ (List.Sublist.refl _))) hh)) (fun hh =>
(box_I (i := 0) s rfl rfl
(bsel_pro hh (fun hh =>
(hq _ _ _ _ (s.keep (.cons _ (List.Sublist.refl _))) hh)) (fun hh =>
(match hh with | ⟨m3, q1, q2⟩ => ⟨m3, q1, _, (s.keep (.cons _ (List.Sublist.refl _))), q2⟩)))))))))))))))))))) (fun hh =>
(apA_pro s hh fun s10 _ _ s hh =>
(newA_pro s (by first | exact rfl | exact True.intro) hh fun b12 _ _ s hh =>
(newA_pro s (by first | exact rfl | exact True.intro) hh fun b14 _ _ s hh =>
(hq _ _ _ _ s hh)))))))⟩)))))))

/- (*demesne/ram.RAM).Has -/
def ram_RAM_Has_A (p0 : Option Addr) (p1 : Int) (Q : Bool → AH → Prop) (h : AH) : Prop :=
(bsel (decide (p1 < (0 : Int)))
(Q false h)
(onSome p0 fun a1 =>
(aI .i64 a1 h fun n2 =>
(bsel (decide (p1 ≥ n2))
(Q false h)
(onSome p0 fun a3 =>
(aS (Addr.add a3 1) h fun s4 =>
(∃ I5 : Int → Nat → AH → Prop, (∃ m6, I5 (0 : Int) m6 h) ∧ ∀ x9 : Int, ∀ m6 h8, I5 x9 m6 h8 → 
(bsel (decide (x9 < (Int.ofNat s4.len)))
(onSome s4.a fun a10 =>
(inB x9 s4.len
(aI .i64 (Addr.add a10 (Int.toNat x9 * 2)) h8 fun n11 =>
(aI .i64 (Addr.add (Addr.add a10 (Int.toNat x9 * 2)) 1) h8 fun n12 =>
(bsel (decide (p1 ≥ n11))
(bsel (decide (p1 < n12))
(Q false h8)
(∃ m7, m7 < m6 ∧ I5 (IntKind.wrap .i64 (x9 + (1 : Int))) m7 h8))
(∃ m7, m7 < m6 ∧ I5 (IntKind.wrap .i64 (x9 + (1 : Int))) m7 h8))))))
(Q true h8)))))))))
set_option maxHeartbeats 4000000 in
theorem ram_RAM_Has_pro {Z : Nat → Prop} {A : AH} {L : Bx} {h : Hp} {p0 : Option Addr} {p1 : Int} {Q : Bool → Hp → Prop} {Q2 : Bool → AH → Prop} (hq : ∀ r0 A h, Sim Z A L h → Q2 r0 A → Q r0 h) (s : Sim Z A L h) (hh : ram_RAM_Has_A p0 p1 Q2 A) : ram_RAM_Has p0 p1 Q h := by
  unfold ram_RAM_Has_A at hh
  unfold ram_RAM_Has
  exact (bsel_pro hh (fun hh =>
(hq _ _ _ s hh)) (fun hh =>
(onSome_pro hh fun a1 hh =>
(aI_pro s hh fun n2 hh =>
(bsel_pro hh (fun hh =>
(hq _ _ _ s hh)) (fun hh =>
(onSome_pro hh fun a3 hh =>
(aS_pro s hh fun s4 hh =>
(match hh with | ⟨I5, ⟨q0, q1⟩, q2⟩ => ⟨fun x9 m h => ∃ A, Sim Z A (L) h ∧ I5 x9 m A, ⟨q0, _, s, q1⟩, fun x9 m6 h ⟨h8, s, q3⟩ => (have hh := q2 x9 m6 h8 q3;
(bsel_pro hh (fun hh =>
(onSome_pro hh fun a10 hh =>
(inB_pro hh fun hh =>
(aI_pro s hh fun n11 hh =>
(aI_pro s hh fun n12 hh =>
(box_new s fun b13 _ s =>
(box_set (i := 0) s rfl rfl rfl fun _ s =>
(box_set (i := 0) s rfl rfl rfl fun _ s =>
(have s : Sim _ _ ((b13, [(.int .i64 n11), (.int .i64 n12)], 65) :: L) _ := s;
(box_I (i := 0) s rfl rfl
(bsel_pro hh (fun hh =>
(box_I (i := 0) s rfl rfl
(bsel_pro hh (fun hh =>
(hq _ _ _ (s.keep (.cons _ (List.Sublist.refl _))) hh)) (fun hh =>
(match hh with | ⟨m7, q1, q2⟩ => ⟨m7, q1, _, (s.keep (.cons _ (List.Sublist.refl _))), q2⟩))))) (fun hh =>
(match hh with | ⟨m7, q1, q2⟩ => ⟨m7, q1, _, (s.keep (.cons _ (List.Sublist.refl _))), q2⟩))))))))))))) (fun hh =>
(hq _ _ _ s hh))))⟩)))))))))

/- (*demesne/ram.RAM).check -/
def ram_RAM_check_A (p0 : Option Addr) (p1 : Int) (p2 : Int) (Q : Int → AH → Prop) (h : AH) : Prop :=
(∃ R1 : Bool → AH → Prop, (∀ b2 : Bool, ∀ h3, R1 b2 h3 → 
(bsel b2
(bsel (decide ((IntKind.wrap .u64 ((IntKind.wrap .u64 (p1 + (IntKind.wrap .u64 p2))) - (1 : Int))) < p1))
(Q (2 : Int) h3)
(onSome p0 fun a4 =>
(aI .i64 a4 h3 fun n5 =>
(bsel (decide ((IntKind.wrap .u64 (Int.tdiv (IntKind.wrap .u64 ((IntKind.wrap .u64 (p1 + (IntKind.wrap .u64 p2))) - (1 : Int))) (4096 : Int))) ≥ (IntKind.wrap .u64 n5)))
(Q (2 : Int) h3)
(ram_RAM_Has_A p0 (IntKind.wrap .i64 (IntKind.wrap .u64 (Int.tdiv p1 (4096 : Int)))) (fun b6 h7 =>
(bsel (!b6)
(Q (2 : Int) h7)
(ram_RAM_Has_A p0 (IntKind.wrap .i64 (IntKind.wrap .u64 (Int.tdiv (IntKind.wrap .u64 ((IntKind.wrap .u64 (p1 + (IntKind.wrap .u64 p2))) - (1 : Int))) (4096 : Int)))) (fun b8 h9 =>
(bsel (!b8)
(Q (2 : Int) h9)
(Q (0 : Int) h9))) h7))) h3)))))
(Q (1 : Int) h3))) ∧
(bsel (p2 == (1 : Int))
(R1 (p2 == (1 : Int)) h)
(bsel (p2 == (2 : Int))
(R1 (p2 == (2 : Int)) h)
(bsel (p2 == (4 : Int))
(R1 (p2 == (4 : Int)) h)
(R1 (p2 == (8 : Int)) h)))))
set_option maxHeartbeats 4000000 in
theorem ram_RAM_check_pro {Z : Nat → Prop} {A : AH} {L : Bx} {h : Hp} {p0 : Option Addr} {p1 : Int} {p2 : Int} {Q : Int → Hp → Prop} {Q2 : Int → AH → Prop} (hq : ∀ r0 A h, Sim Z A L h → Q2 r0 A → Q r0 h) (s : Sim Z A L h) (hh : ram_RAM_check_A p0 p1 p2 Q2 A) : ram_RAM_check p0 p1 p2 Q h := by
  unfold ram_RAM_check_A at hh
  unfold ram_RAM_check ram_RAM_check_G
  exact (match hh with | ⟨R1, q1, hh⟩ => ⟨fun b2 h => ∃ A, Sim Z A (L) h ∧ R1 b2 A, fun b2 h ⟨h3, s, q2⟩ => (have hh := q1 b2 h3 q2;
(bsel_pro hh (fun hh =>
(bsel_pro hh (fun hh =>
(hq _ _ _ s hh)) (fun hh =>
(onSome_pro hh fun a4 hh =>
(aI_pro s hh fun n5 hh =>
(bsel_pro hh (fun hh =>
(hq _ _ _ s hh)) (fun hh =>
(ram_RAM_Has_pro (fun b6 _ _ s hh =>
(bsel_pro hh (fun hh =>
(hq _ _ _ s hh)) (fun hh =>
(ram_RAM_Has_pro (fun b8 _ _ s hh =>
(bsel_pro hh (fun hh =>
(hq _ _ _ s hh)) (fun hh =>
(hq _ _ _ s hh)))) s hh)))) s hh)))))))) (fun hh =>
(hq _ _ _ s hh)))),
(bsel_pro hh (fun hh =>
⟨_, s, hh⟩) (fun hh =>
(bsel_pro hh (fun hh =>
⟨_, s, hh⟩) (fun hh =>
(bsel_pro hh (fun hh =>
⟨_, s, hh⟩) (fun hh =>
⟨_, s, hh⟩))))))⟩)

/- (*demesne/ram.RAM).own -/
def ram_RAM_own_A (p0 : Option Addr) (p1 : Int) (Q : Option Addr → AH → Prop) (h : AH) : Prop :=
(onSome p0 fun a1 =>
(aM (Addr.add a1 2) h fun mp2 =>
(aLk h mp2 .i64 p1 fun o3 =>
(∃ pt4 : Option Addr, ((o3.getD (.pointer none)) : Value) = (.pointer pt4) ∧
(∃ R5 : Option Addr → AH → Prop, (∀ pt11 : Option Addr, ∀ h12, R5 pt11 h12 → 
(Q pt11 h12)) ∧
(bsel pt4.isNone
(newA h (.cells (Array.replicate 4096 (.int .u8 (0 : Int))) 108) fun b6 h7 =>
(onSome p0 fun a8 =>
(aM (Addr.add a8 2) h7 fun mp9 =>
(aMSt h7 mp9 .i64 p1 (.pointer (some (Addr.mk b6 0 none))) fun h10 =>
(R5 (some (Addr.mk b6 0 none)) h10)))))
(R5 pt4 h)))))))
set_option maxHeartbeats 4000000 in
theorem ram_RAM_own_pro {Z : Nat → Prop} {A : AH} {L : Bx} {h : Hp} {p0 : Option Addr} {p1 : Int} {Q : Option Addr → Hp → Prop} {Q2 : Option Addr → AH → Prop} (hq : ∀ r0 A h, Sim Z A L h → Q2 r0 A → Q r0 h) (s : Sim Z A L h) (hh : ram_RAM_own_A p0 p1 Q2 A) : ram_RAM_own p0 p1 Q h := by
  unfold ram_RAM_own_A at hh
  unfold ram_RAM_own
  exact (onSome_pro hh fun a1 hh =>
(aM_pro s hh fun mp2 hh =>
(aLk_pro s hh fun o3 hh =>
(match hh with | ⟨pt4, e13, hh⟩ => ⟨pt4, e13,
(match hh with | ⟨R5, q1, hh⟩ => ⟨fun pt11 h => ∃ A, Sim Z A (L) h ∧ R5 pt11 A, fun pt11 h ⟨h12, s, q2⟩ => (have hh := q1 pt11 h12 q2;
(hq _ _ _ s hh)),
(bsel_pro hh (fun hh =>
(newA_pro s (by first | exact rfl | exact True.intro) hh fun b6 _ _ s hh =>
(onSome_pro hh fun a8 hh =>
(aM_pro s hh fun mp9 hh =>
(aMSt_pro s hh fun _ _ s hh =>
⟨_, s, hh⟩))))) (fun hh =>
⟨_, s, hh⟩))⟩)⟩))))

/- (*demesne/ram.RAM).Store -/
def ram_RAM_Store_A (p0 : Option Addr) (p1 : Int) (p2 : Int) (p3 : Int) (Q : Int → AH → Prop) (h : AH) : Prop :=
(ram_RAM_check_A p0 p1 p2 (fun n1 h2 =>
(bsel (n1 != (0 : Int))
(Q n1 h2)
(∃ I3 : Int → Nat → AH → Prop, (∃ m4, I3 (0 : Int) m4 h2) ∧ ∀ x7 : Int, ∀ m4 h6, I3 x7 m4 h6 → 
(bsel (decide (x7 < p2))
(bsel (decide ((IntKind.wrap .i64 ((8 : Int) * x7)) < 0)) False
(ram_RAM_own_A p0 (IntKind.wrap .i64 (IntKind.wrap .u64 (Int.tdiv (IntKind.wrap .u64 (p1 + (IntKind.wrap .u64 x7))) (4096 : Int)))) (fun pt8 h9 =>
(onSome pt8 fun a10 =>
(inB (Int.tmod (IntKind.wrap .u64 (p1 + (IntKind.wrap .u64 x7))) (4096 : Int)) 4096
(aC (Addr.add a10 (Int.toNat (Int.tmod (IntKind.wrap .u64 (p1 + (IntKind.wrap .u64 x7))) (4096 : Int)) * 1)) (.int .u8 (IntKind.wrap .u8 (Int.fdiv p3 (2 ^ (min (Int.toNat (IntKind.wrap .i64 ((8 : Int) * x7))) 64))))) h9 fun h11 =>
(∃ m5, m5 < m4 ∧ I3 (IntKind.wrap .i64 (x7 + (1 : Int))) m5 h11))))) h6))
(Q (0 : Int) h6))))) h)
set_option maxHeartbeats 4000000 in
theorem ram_RAM_Store_pro {Z : Nat → Prop} {A : AH} {L : Bx} {h : Hp} {p0 : Option Addr} {p1 : Int} {p2 : Int} {p3 : Int} {Q : Int → Hp → Prop} {Q2 : Int → AH → Prop} (hq : ∀ r0 A h, Sim Z A L h → Q2 r0 A → Q r0 h) (s : Sim Z A L h) (hh : ram_RAM_Store_A p0 p1 p2 p3 Q2 A) : ram_RAM_Store p0 p1 p2 p3 Q h := by
  unfold ram_RAM_Store_A at hh
  unfold ram_RAM_Store ram_RAM_Store_G
  exact (ram_RAM_check_pro (fun n1 _ _ s hh =>
(bsel_pro hh (fun hh =>
(hq _ _ _ s hh)) (fun hh =>
(match hh with | ⟨I3, ⟨q0, q1⟩, q2⟩ => ⟨fun x7 m h => ∃ A, Sim Z A (L) h ∧ I3 x7 m A, ⟨q0, _, s, q1⟩, fun x7 m4 h ⟨h6, s, q3⟩ => (have hh := q2 x7 m4 h6 q3;
(bsel_pro hh (fun hh =>
(bsel_pro hh (fun hh => hh) (fun hh =>
(ram_RAM_own_pro (fun pt8 _ _ s hh =>
(onSome_pro hh fun a10 hh =>
(inB_pro hh fun hh =>
(aC_pro s hh fun _ _ s hh =>
(match hh with | ⟨m5, q1, q2⟩ => ⟨m5, q1, _, s, q2⟩))))) s hh)))) (fun hh =>
(hq _ _ _ s hh))))⟩)))) s hh)

/- demesne/demesneref01.Store -/
def demesneref01_Store_A (_p0 : Int) (_p1 : Sl) (p2 : Option Nat) (p3 : Int) (p4 : Int) (p5 : Int) (Q : AH → Prop) (h : AH) : Prop :=
(∃ I2 : Int → Nat → AH → Prop, (∃ m3, I2 (0 : Int) m3 h) ∧ ∀ x6 : Int, ∀ m3 h5, I2 x6 m3 h5 → 
(bsel (decide (x6 < p4))
(bsel (decide ((IntKind.wrap .i64 ((8 : Int) * x6)) < 0)) False
(aMSt h5 p2 .u64 (IntKind.wrap .u64 (p3 + (IntKind.wrap .u64 x6))) (.int .u8 (IntKind.wrap .u8 (bits .and .u64 (Int.fdiv p5 (2 ^ (min (Int.toNat (IntKind.wrap .i64 ((8 : Int) * x6))) 64))) (255 : Int)))) fun h7 =>
(∃ m4, m4 < m3 ∧ I2 (IntKind.wrap .i64 (x6 + (1 : Int))) m4 h7)))
(Q h5)))
set_option maxHeartbeats 4000000 in
theorem demesneref01_Store_pro {Z : Nat → Prop} {A : AH} {L : Bx} {h : Hp} {p0 : Int} {p1 : Sl} {p2 : Option Nat} {p3 : Int} {p4 : Int} {p5 : Int} {Q : Hp → Prop} {Q2 : AH → Prop} (hq : ∀  A h, Sim Z A L h → Q2  A → Q  h) (s : Sim Z A L h) (hh : demesneref01_Store_A p0 p1 p2 p3 p4 p5 Q2 A) : demesneref01_Store p0 p1 p2 p3 p4 p5 Q h := by
  unfold demesneref01_Store_A at hh
  unfold demesneref01_Store
  exact (box_new s fun b1 _ s =>
(match hh with | ⟨I2, ⟨q0, q1⟩, q2⟩ => ⟨fun x6 m h => ∃ A, Sim Z A ((b1, [(.int .i64 p0), (.slice p1.a p1.len p1.cap), (.map p2)], 28) :: L) h ∧ I2 x6 m A, ⟨q0, _, s, q1⟩, fun x6 m3 h ⟨h5, s, q3⟩ => (have hh := q2 x6 m3 h5 q3;
(bsel_pro hh (fun hh =>
(box_M (i := 0) s rfl rfl
(bsel_pro hh (fun hh => hh) (fun hh =>
(aMSt_pro s hh fun _ _ s hh =>
(match hh with | ⟨m4, q1, q2⟩ => ⟨m4, q1, _, s, q2⟩)))))) (fun hh =>
(hq  _ _ (s.keep (.cons _ (List.Sublist.refl _))) hh))))⟩))

/- demesne/demesnelaw04.Lay -/
def demesnelaw04_Lay_A (p0 : Sl) (Q : Option Addr → Int → Sl → Option Nat → AH → Prop) (h : AH) : Prop :=
(newA h (.cells #[(.int .i64 (7 : Int)), (.int .i64 (8 : Int))] 65) fun b2 h3 =>
(newA h3 (.map #[] 0) fun b4 h5 =>
(newA h5 (.cells #[(.int .i64 (7 : Int)), (.int .i64 (8 : Int))] 65) fun b7 h8 =>
(ram_New_A (8 : Int) (Sl.mk (some (Addr.mk b7 0 none)) 1 1) (fun pt9 n10 h11 =>
(bsel (n10 != (0 : Int))
(Q none (8 : Int) (Sl.mk ((some (Addr.mk b2 0 none)) : Option Addr) (1 : Nat) (1 : Nat)) ((some b4) : Option Nat) h11)
(∃ I12 : Int → Nat → AH → Prop, (∃ m13, I12 (0 : Int) m13 h11) ∧ ∀ x16 : Int, ∀ m13 h15, I12 x16 m13 h15 → 
(bsel (decide (x16 < (Int.ofNat p0.len)))
(bsel (decide (x16 < (40 : Int)))
(∃ R17 : AH → Prop, (∀ h26, R17 h26 → 
(∃ m14, m14 < m13 ∧ I12 (IntKind.wrap .i64 (x16 + (1 : Int))) m14 h26)) ∧
(onSome p0.a fun a18 =>
(inB x16 p0.len
(aI .i64 (Addr.add a18 (Int.toNat x16 * 3)) h15 fun n19 =>
(aI .i64 (Addr.add (Addr.add a18 (Int.toNat x16 * 3)) 1) h15 fun n20 =>
(aI .u64 (Addr.add (Addr.add a18 (Int.toNat x16 * 3)) 2) h15 fun n21 =>
(bsel (decide (n19 < (0 : Int)))
(R17 h15)
(bsel (decide (n19 > (7 : Int)))
(R17 h15)
(bsel (decide (n20 < (0 : Int)))
(R17 h15)
(bsel (decide (n20 > (511 : Int)))
(R17 h15)
(ram_RAM_Store_A pt9 (IntKind.wrap .u64 ((IntKind.wrap .u64 ((IntKind.wrap .u64 n19) * (4096 : Int))) + (IntKind.wrap .u64 (IntKind.wrap .i64 ((8 : Int) * n20))))) (8 : Int) n21 (fun n23 h24 =>
(bsel (n23 == (0 : Int))
(demesneref01_Store_A (8 : Int) (Sl.mk ((some (Addr.mk b2 0 none)) : Option Addr) (1 : Nat) (1 : Nat)) ((some b4) : Option Nat) (IntKind.wrap .u64 ((IntKind.wrap .u64 ((IntKind.wrap .u64 n19) * (4096 : Int))) + (IntKind.wrap .u64 (IntKind.wrap .i64 ((8 : Int) * n20))))) (8 : Int) n21 (fun  h25 =>
(R17 h25)) h24)
(R17 h24))) h15)))))))))))
(Q pt9 (8 : Int) (Sl.mk ((some (Addr.mk b2 0 none)) : Option Addr) (1 : Nat) (1 : Nat)) ((some b4) : Option Nat) h15))
(Q pt9 (8 : Int) (Sl.mk ((some (Addr.mk b2 0 none)) : Option Addr) (1 : Nat) (1 : Nat)) ((some b4) : Option Nat) h15))))) h8))))
set_option maxHeartbeats 4000000 in
theorem demesnelaw04_Lay_pro {Z : Nat → Prop} {A : AH} {L : Bx} {h : Hp} {p0 : Sl} {Q : Option Addr → Int → Sl → Option Nat → Hp → Prop} {Q2 : Option Addr → Int → Sl → Option Nat → AH → Prop} (hq : ∀ r0 r1 r2 r3 A h, Sim Z A L h → Q2 r0 r1 r2 r3 A → Q r0 r1 r2 r3 h) (s : Sim Z A L h) (hh : demesnelaw04_Lay_A p0 Q2 A) : demesnelaw04_Lay p0 Q h := by
  unfold demesnelaw04_Lay_A at hh
  unfold demesnelaw04_Lay demesnelaw04_Lay_G
  exact (box_new s fun b1 _ s =>
(newA_pro s (by first | exact rfl | exact True.intro) hh fun b2 _ _ s hh =>
(newA_pro s (by first | exact rfl | exact True.intro) hh fun b4 _ _ s hh =>
(box_new s fun b6 _ s =>
(box_set (i := 0) s rfl rfl rfl fun _ s =>
(box_set (i := 0) s rfl rfl rfl fun _ s =>
(box_set (i := 0) s rfl rfl rfl fun _ s =>
(have s : Sim _ _ ((b6, [(.int .i64 (8 : Int)), (.slice (some (Addr.mk b2 0 none)) 1 1), (.map (some b4))], 28) :: (b1, [(.int .i64 (0 : Int)), (.slice none 0 0), (.map none)], 28) :: L) _ := s;
(newA_pro s (by first | exact rfl | exact True.intro) hh fun b7 _ _ s hh =>
(ram_New_pro (fun pt9 n10 _ _ s hh =>
(bsel_pro hh (fun hh =>
(box_I (i := 0) s rfl rfl
(box_S (i := 0) s rfl rfl
(box_M (i := 0) s rfl rfl
(box_set (i := 1) s rfl rfl rfl fun _ s =>
(box_set (i := 1) s rfl rfl rfl fun _ s =>
(box_set (i := 1) s rfl rfl rfl fun _ s =>
(have s : Sim _ _ ((b6, [(.int .i64 (8 : Int)), (.slice (some (Addr.mk b2 0 none)) 1 1), (.map (some b4))], 28) :: (b1, [(.int .i64 (8 : Int)), (.slice ((some (Addr.mk b2 0 none)) : Option Addr) (1 : Nat) (1 : Nat)), (.map ((some b4) : Option Nat))], 28) :: L) _ := s;
(box_I (i := 1) s rfl rfl
(box_S (i := 1) s rfl rfl
(box_M (i := 1) s rfl rfl
(hq _ _ _ _ _ _ (s.keep (.cons _ (.cons _ (List.Sublist.refl _)))) hh)))))))))))) (fun hh =>
(match hh with | ⟨I12, ⟨q0, q1⟩, q2⟩ => ⟨fun x16 m h => ∃ A, Sim Z A ((b6, [(.int .i64 (8 : Int)), (.slice (some (Addr.mk b2 0 none)) 1 1), (.map (some b4))], 28) :: (b1, [(.int .i64 (0 : Int)), (.slice none 0 0), (.map none)], 28) :: L) h ∧ I12 x16 m A, ⟨q0, _, s, q1⟩, fun x16 m13 h ⟨h15, s, q3⟩ => (have hh := q2 x16 m13 h15 q3;
(bsel_pro hh (fun hh =>
(bsel_pro hh (fun hh =>
(match hh with | ⟨R17, q1, hh⟩ => ⟨fun  h => ∃ A, Sim Z A ((b6, [(.int .i64 (8 : Int)), (.slice (some (Addr.mk b2 0 none)) 1 1), (.map (some b4))], 28) :: (b1, [(.int .i64 (0 : Int)), (.slice none 0 0), (.map none)], 28) :: L) h ∧ R17 A, fun  h ⟨h26, s, q2⟩ => (have hh := q1 h26 q2;
(match hh with | ⟨m14, q1, q2⟩ => ⟨m14, q1, _, s, q2⟩)),
(onSome_pro hh fun a18 hh =>
(inB_pro hh fun hh =>
(aI_pro s hh fun n19 hh =>
(aI_pro s hh fun n20 hh =>
(aI_pro s hh fun n21 hh =>
(box_new s fun b22 _ s =>
(box_set (i := 0) s rfl rfl rfl fun _ s =>
(box_set (i := 0) s rfl rfl rfl fun _ s =>
(box_set (i := 0) s rfl rfl rfl fun _ s =>
(have s : Sim _ _ ((b22, [(.int .i64 n19), (.int .i64 n20), (.int .u64 n21)], 60) :: (b6, [(.int .i64 (8 : Int)), (.slice (some (Addr.mk b2 0 none)) 1 1), (.map (some b4))], 28) :: (b1, [(.int .i64 (0 : Int)), (.slice none 0 0), (.map none)], 28) :: L) _ := s;
(box_I (i := 0) s rfl rfl
(bsel_pro hh (fun hh =>
⟨_, (s.keep (.cons _ (.cons_cons _ (.cons_cons _ (List.Sublist.refl _))))), hh⟩) (fun hh =>
(box_I (i := 0) s rfl rfl
(bsel_pro hh (fun hh =>
⟨_, (s.keep (.cons _ (.cons_cons _ (.cons_cons _ (List.Sublist.refl _))))), hh⟩) (fun hh =>
(box_I (i := 0) s rfl rfl
(bsel_pro hh (fun hh =>
⟨_, (s.keep (.cons _ (.cons_cons _ (.cons_cons _ (List.Sublist.refl _))))), hh⟩) (fun hh =>
(box_I (i := 0) s rfl rfl
(bsel_pro hh (fun hh =>
⟨_, (s.keep (.cons _ (.cons_cons _ (.cons_cons _ (List.Sublist.refl _))))), hh⟩) (fun hh =>
(box_I (i := 0) s rfl rfl
(box_I (i := 0) s rfl rfl
(box_I (i := 0) s rfl rfl
(ram_RAM_Store_pro (fun n23 _ _ s hh =>
(bsel_pro hh (fun hh =>
(box_I (i := 1) s rfl rfl
(box_S (i := 1) s rfl rfl
(box_M (i := 1) s rfl rfl
(box_I (i := 0) s rfl rfl
(demesneref01_Store_pro (fun  _ _ s hh =>
⟨_, (s.keep (.cons _ (.cons_cons _ (.cons_cons _ (List.Sublist.refl _))))), hh⟩) s hh)))))) (fun hh =>
⟨_, (s.keep (.cons _ (.cons_cons _ (.cons_cons _ (List.Sublist.refl _))))), hh⟩))) s hh))))))))))))))))))))))))))⟩)) (fun hh =>
(box_I (i := 0) s rfl rfl
(box_S (i := 0) s rfl rfl
(box_M (i := 0) s rfl rfl
(box_set (i := 1) s rfl rfl rfl fun _ s =>
(box_set (i := 1) s rfl rfl rfl fun _ s =>
(box_set (i := 1) s rfl rfl rfl fun _ s =>
(have s : Sim _ _ ((b6, [(.int .i64 (8 : Int)), (.slice (some (Addr.mk b2 0 none)) 1 1), (.map (some b4))], 28) :: (b1, [(.int .i64 (8 : Int)), (.slice ((some (Addr.mk b2 0 none)) : Option Addr) (1 : Nat) (1 : Nat)), (.map ((some b4) : Option Nat))], 28) :: L) _ := s;
(box_I (i := 1) s rfl rfl
(box_S (i := 1) s rfl rfl
(box_M (i := 1) s rfl rfl
(hq _ _ _ _ _ _ (s.keep (.cons _ (.cons _ (List.Sublist.refl _)))) hh)))))))))))))) (fun hh =>
(box_I (i := 0) s rfl rfl
(box_S (i := 0) s rfl rfl
(box_M (i := 0) s rfl rfl
(box_set (i := 1) s rfl rfl rfl fun _ s =>
(box_set (i := 1) s rfl rfl rfl fun _ s =>
(box_set (i := 1) s rfl rfl rfl fun _ s =>
(have s : Sim _ _ ((b6, [(.int .i64 (8 : Int)), (.slice (some (Addr.mk b2 0 none)) 1 1), (.map (some b4))], 28) :: (b1, [(.int .i64 (8 : Int)), (.slice ((some (Addr.mk b2 0 none)) : Option Addr) (1 : Nat) (1 : Nat)), (.map ((some b4) : Option Nat))], 28) :: L) _ := s;
(box_I (i := 1) s rfl rfl
(box_S (i := 1) s rfl rfl
(box_M (i := 1) s rfl rfl
(hq _ _ _ _ _ _ (s.keep (.cons _ (.cons _ (List.Sublist.refl _)))) hh))))))))))))))⟩)))) s hh))))))))))

/- demesne/walk.May -/
def walk_May_A (p0 : Bool) (p1 : Bool) (p2 : Bool) (p3 : Bool) (p4 : Bool) (p5 : Bool) (Q : Bool → AH → Prop) (h : AH) : Prop :=
(bsel p3
(bsel (!p0)
(Q false h)
(bsel p4
(bsel (!p1)
(Q false h)
(bsel p5
(Q (!(!p2)) h)
(Q true h)))
(bsel p5
(Q (!(!p2)) h)
(Q true h))))
(bsel p4
(bsel (!p1)
(Q false h)
(bsel p5
(Q (!(!p2)) h)
(Q true h)))
(bsel p5
(Q (!(!p2)) h)
(Q true h))))
set_option maxHeartbeats 4000000 in
theorem walk_May_pro {Z : Nat → Prop} {A : AH} {L : Bx} {h : Hp} {p0 : Bool} {p1 : Bool} {p2 : Bool} {p3 : Bool} {p4 : Bool} {p5 : Bool} {Q : Bool → Hp → Prop} {Q2 : Bool → AH → Prop} (hq : ∀ r0 A h, Sim Z A L h → Q2 r0 A → Q r0 h) (s : Sim Z A L h) (hh : walk_May_A p0 p1 p2 p3 p4 p5 Q2 A) : walk_May p0 p1 p2 p3 p4 p5 Q h := by
  unfold walk_May_A at hh
  unfold walk_May
  exact (box_new s fun b1 _ s =>
(box_new s fun b2 _ s =>
(box_B (i := 0) s rfl rfl
(bsel_pro hh (fun hh =>
(box_B (i := 1) s rfl rfl
(bsel_pro hh (fun hh =>
(hq _ _ _ (s.keep (.cons _ (.cons _ (List.Sublist.refl _)))) hh)) (fun hh =>
(box_B (i := 0) s rfl rfl
(bsel_pro hh (fun hh =>
(box_B (i := 1) s rfl rfl
(bsel_pro hh (fun hh =>
(hq _ _ _ (s.keep (.cons _ (.cons _ (List.Sublist.refl _)))) hh)) (fun hh =>
(box_B (i := 0) s rfl rfl
(bsel_pro hh (fun hh =>
(box_B (i := 1) s rfl rfl
(hq _ _ _ (s.keep (.cons _ (.cons _ (List.Sublist.refl _)))) hh))) (fun hh =>
(hq _ _ _ (s.keep (.cons _ (.cons _ (List.Sublist.refl _)))) hh)))))))) (fun hh =>
(box_B (i := 0) s rfl rfl
(bsel_pro hh (fun hh =>
(box_B (i := 1) s rfl rfl
(hq _ _ _ (s.keep (.cons _ (.cons _ (List.Sublist.refl _)))) hh))) (fun hh =>
(hq _ _ _ (s.keep (.cons _ (.cons _ (List.Sublist.refl _)))) hh))))))))))) (fun hh =>
(box_B (i := 0) s rfl rfl
(bsel_pro hh (fun hh =>
(box_B (i := 1) s rfl rfl
(bsel_pro hh (fun hh =>
(hq _ _ _ (s.keep (.cons _ (.cons _ (List.Sublist.refl _)))) hh)) (fun hh =>
(box_B (i := 0) s rfl rfl
(bsel_pro hh (fun hh =>
(box_B (i := 1) s rfl rfl
(hq _ _ _ (s.keep (.cons _ (.cons _ (List.Sublist.refl _)))) hh))) (fun hh =>
(hq _ _ _ (s.keep (.cons _ (.cons _ (List.Sublist.refl _)))) hh)))))))) (fun hh =>
(box_B (i := 0) s rfl rfl
(bsel_pro hh (fun hh =>
(box_B (i := 1) s rfl rfl
(hq _ _ _ (s.keep (.cons _ (.cons _ (List.Sublist.refl _)))) hh))) (fun hh =>
(hq _ _ _ (s.keep (.cons _ (.cons _ (List.Sublist.refl _)))) hh))))))))))))

/- demesne/pte.Canonical -/
def pte_Canonical_A (p0 : Int) (Q : Bool → AH → Prop) (h : AH) : Prop :=
(bsel ((Int.fdiv p0 (2 ^ (47 : Nat))) == (0 : Int))
(Q true h)
(Q ((Int.fdiv p0 (2 ^ (47 : Nat))) == (131071 : Int)) h))
set_option maxHeartbeats 4000000 in
theorem pte_Canonical_pro {Z : Nat → Prop} {A : AH} {L : Bx} {h : Hp} {p0 : Int} {Q : Bool → Hp → Prop} {Q2 : Bool → AH → Prop} (hq : ∀ r0 A h, Sim Z A L h → Q2 r0 A → Q r0 h) (s : Sim Z A L h) (hh : pte_Canonical_A p0 Q2 A) : pte_Canonical p0 Q h := by
  unfold pte_Canonical_A at hh
  unfold pte_Canonical
  exact (bsel_pro hh (fun hh =>
(hq _ _ _ s hh)) (fun hh =>
(hq _ _ _ s hh)))

/- demesne/pte.Split -/
def pte_Split_A (p0 : Int) (Q : Int → Int → Int → Int → Int → AH → Prop) (h : AH) : Prop :=
(newA h (.cells #[(.int .i64 (0 : Int)), (.int .i64 (0 : Int)), (.int .i64 (0 : Int)), (.int .i64 (0 : Int))] 78) fun b2 h3 =>
(∃ I4 : Int → Nat → AH → Prop, (∃ m5, I4 (0 : Int) m5 h3) ∧ ∀ x8 : Int, ∀ m5 h7, I4 x8 m5 h7 → 
(bsel (decide (x8 < (4 : Int)))
(bsel (decide ((IntKind.wrap .i64 ((39 : Int) - (IntKind.wrap .i64 ((9 : Int) * x8)))) < 0)) False
(inB x8 4
(aC (Addr.add (Addr.mk b2 0 none) (Int.toNat x8 * 1)) (.int .i64 (IntKind.wrap .i64 (bits .and .u64 (Int.fdiv p0 (2 ^ (min (Int.toNat (IntKind.wrap .i64 ((39 : Int) - (IntKind.wrap .i64 ((9 : Int) * x8))))) 64))) (511 : Int)))) h7 fun h9 =>
(∃ m6, m6 < m5 ∧ I4 (IntKind.wrap .i64 (x8 + (1 : Int))) m6 h9))))
(aI .i64 (Addr.mk b2 0 none) h7 fun n10 =>
(aI .i64 (Addr.add (Addr.mk b2 0 none) 1) h7 fun n11 =>
(aI .i64 (Addr.add (Addr.mk b2 0 none) 2) h7 fun n12 =>
(aI .i64 (Addr.add (Addr.mk b2 0 none) 3) h7 fun n13 =>
(Q n10 n11 n12 n13 (IntKind.wrap .i64 (bits .and .u64 p0 (4095 : Int))) h7))))))))
set_option maxHeartbeats 4000000 in
theorem pte_Split_pro {Z : Nat → Prop} {A : AH} {L : Bx} {h : Hp} {p0 : Int} {Q : Int → Int → Int → Int → Int → Hp → Prop} {Q2 : Int → Int → Int → Int → Int → AH → Prop} (hq : ∀ r0 r1 r2 r3 r4 A h, Sim Z A L h → Q2 r0 r1 r2 r3 r4 A → Q r0 r1 r2 r3 r4 h) (s : Sim Z A L h) (hh : pte_Split_A p0 Q2 A) : pte_Split p0 Q h := by
  unfold pte_Split_A at hh
  unfold pte_Split
  exact (box_new s fun b1 _ s =>
(newA_pro s (by first | exact rfl | exact True.intro) hh fun b2 _ _ s hh =>
(match hh with | ⟨I4, ⟨q0, q1⟩, q2⟩ => ⟨fun x8 m h => ∃ A, Sim Z A ((b1, [(.int .i64 (0 : Int)), (.int .i64 (0 : Int)), (.int .i64 (0 : Int)), (.int .i64 (0 : Int))], 78) :: L) h ∧ I4 x8 m A, ⟨q0, _, s, q1⟩, fun x8 m5 h ⟨h7, s, q3⟩ => (have hh := q2 x8 m5 h7 q3;
(bsel_pro hh (fun hh =>
(bsel_pro hh (fun hh => hh) (fun hh =>
(inB_pro hh fun hh =>
(aC_pro s hh fun _ _ s hh =>
(match hh with | ⟨m6, q1, q2⟩ => ⟨m6, q1, _, s, q2⟩)))))) (fun hh =>
(aI_pro s hh fun n10 hh =>
(aI_pro s hh fun n11 hh =>
(aI_pro s hh fun n12 hh =>
(aI_pro s hh fun n13 hh =>
(box_set (i := 0) s rfl rfl rfl fun _ s =>
(box_set (i := 0) s rfl rfl rfl fun _ s =>
(box_set (i := 0) s rfl rfl rfl fun _ s =>
(box_set (i := 0) s rfl rfl rfl fun _ s =>
(have s : Sim _ _ ((b1, [(.int .i64 n10), (.int .i64 n11), (.int .i64 n12), (.int .i64 n13)], 78) :: L) _ := s;
(box_I (i := 0) s rfl rfl
(box_I (i := 0) s rfl rfl
(box_I (i := 0) s rfl rfl
(box_I (i := 0) s rfl rfl
(hq _ _ _ _ _ _ _ (s.keep (.cons _ (List.Sublist.refl _))) hh)))))))))))))))))⟩)))

/- (*demesne/ram.RAM).Load -/
def ram_RAM_Load_A (p0 : Option Addr) (p1 : Int) (p2 : Int) (Q : Int → Int → AH → Prop) (h : AH) : Prop :=
(ram_RAM_check_A p0 p1 p2 (fun n1 h2 =>
(bsel (n1 != (0 : Int))
(Q (0 : Int) n1 h2)
(∃ I3 : Int → Int → Nat → AH → Prop, (∃ m4, I3 (0 : Int) (IntKind.wrap .i64 (p2 - (1 : Int))) m4 h2) ∧ ∀ x7 : Int, ∀ x8 : Int, ∀ m4 h6, I3 x7 x8 m4 h6 → 
(bsel (decide (x8 ≥ (0 : Int)))
(∃ R9 : Int → AH → Prop, (∀ x17 : Int, ∀ h18, R9 x17 h18 → 
(∃ m5, m5 < m4 ∧ I3 x17 (IntKind.wrap .i64 (x8 - (1 : Int))) m5 h18)) ∧
(onSome p0 fun a10 =>
(aM (Addr.add a10 2) h6 fun mp11 =>
(aLk h6 mp11 .i64 (IntKind.wrap .i64 (IntKind.wrap .u64 (Int.tdiv (IntKind.wrap .u64 (p1 + (IntKind.wrap .u64 x8))) (4096 : Int)))) fun o12 =>
(∃ pt13 : Option Addr, ((o12.getD (.pointer none)) : Value) = (.pointer pt13) ∧
(bsel (!pt13.isNone)
(onSome pt13 fun a14 =>
(inB (Int.tmod (IntKind.wrap .u64 (p1 + (IntKind.wrap .u64 x8))) (4096 : Int)) 4096
(aI .u8 (Addr.add a14 (Int.toNat (Int.tmod (IntKind.wrap .u64 (p1 + (IntKind.wrap .u64 x8))) (4096 : Int)) * 1)) h6 fun n15 =>
(R9 (bits .or .u64 (IntKind.wrap .u64 (x7 * 2 ^ (8 : Nat))) (IntKind.wrap .u64 n15)) h6))))
(R9 (IntKind.wrap .u64 (x7 * 2 ^ (8 : Nat))) h6)))))))
(Q x7 (0 : Int) h6))))) h)
set_option maxHeartbeats 4000000 in
theorem ram_RAM_Load_pro {Z : Nat → Prop} {A : AH} {L : Bx} {h : Hp} {p0 : Option Addr} {p1 : Int} {p2 : Int} {Q : Int → Int → Hp → Prop} {Q2 : Int → Int → AH → Prop} (hq : ∀ r0 r1 A h, Sim Z A L h → Q2 r0 r1 A → Q r0 r1 h) (s : Sim Z A L h) (hh : ram_RAM_Load_A p0 p1 p2 Q2 A) : ram_RAM_Load p0 p1 p2 Q h := by
  unfold ram_RAM_Load_A at hh
  unfold ram_RAM_Load ram_RAM_Load_G
  exact (ram_RAM_check_pro (fun n1 _ _ s hh =>
(bsel_pro hh (fun hh =>
(hq _ _ _ _ s hh)) (fun hh =>
(match hh with | ⟨I3, ⟨q0, q1⟩, q2⟩ => ⟨fun x7 x8 m h => ∃ A, Sim Z A (L) h ∧ I3 x7 x8 m A, ⟨q0, _, s, q1⟩, fun x7 x8 m4 h ⟨h6, s, q3⟩ => (have hh := q2 x7 x8 m4 h6 q3;
(bsel_pro hh (fun hh =>
(match hh with | ⟨R9, q1, hh⟩ => ⟨fun x17 h => ∃ A, Sim Z A (L) h ∧ R9 x17 A, fun x17 h ⟨h18, s, q2⟩ => (have hh := q1 x17 h18 q2;
(match hh with | ⟨m5, q1, q2⟩ => ⟨m5, q1, _, s, q2⟩)),
(onSome_pro hh fun a10 hh =>
(aM_pro s hh fun mp11 hh =>
(aLk_pro s hh fun o12 hh =>
(match hh with | ⟨pt13, e16, hh⟩ => ⟨pt13, e16,
(bsel_pro hh (fun hh =>
(onSome_pro hh fun a14 hh =>
(inB_pro hh fun hh =>
(aI_pro s hh fun n15 hh =>
⟨_, s, hh⟩)))) (fun hh =>
⟨_, s, hh⟩))⟩))))⟩)) (fun hh =>
(hq _ _ _ _ s hh))))⟩)))) s hh)

/- (*demesne/pte.Entry).flags -/
def pte_Entry_flags_A (p0 : Option Addr) (Q : Option Addr → Option Addr → Option Addr → Option Addr → Option Addr → Option Addr → Option Addr → Option Addr → AH → Prop) (h : AH) : Prop :=
(onSome p0 fun a2 =>
(onSome p0 fun a3 =>
(onSome p0 fun a4 =>
(onSome p0 fun a5 =>
(onSome p0 fun a6 =>
(onSome p0 fun a7 =>
(onSome p0 fun a8 =>
(onSome p0 fun a9 =>
(Q ((some a2) : Option Addr) ((some (Addr.add a3 1)) : Option Addr) ((some (Addr.add a4 2)) : Option Addr) ((some (Addr.add a5 3)) : Option Addr) ((some (Addr.add a6 4)) : Option Addr) ((some (Addr.add a7 5)) : Option Addr) ((some (Addr.add a8 6)) : Option Addr) ((some (Addr.add a9 7)) : Option Addr) h)))))))))
set_option maxHeartbeats 4000000 in
theorem pte_Entry_flags_pro {Z : Nat → Prop} {A : AH} {L : Bx} {h : Hp} {p0 : Option Addr} {Q : Option Addr → Option Addr → Option Addr → Option Addr → Option Addr → Option Addr → Option Addr → Option Addr → Hp → Prop} {Q2 : Option Addr → Option Addr → Option Addr → Option Addr → Option Addr → Option Addr → Option Addr → Option Addr → AH → Prop} (hq : ∀ r0 r1 r2 r3 r4 r5 r6 r7 A h, Sim Z A L h → Q2 r0 r1 r2 r3 r4 r5 r6 r7 A → Q r0 r1 r2 r3 r4 r5 r6 r7 h) (s : Sim Z A L h) (hh : pte_Entry_flags_A p0 Q2 A) : pte_Entry_flags p0 Q h := by
  unfold pte_Entry_flags_A at hh
  unfold pte_Entry_flags
  exact (box_new s fun b1 _ s =>
(onSome_pro hh fun a2 hh =>
(onSome_pro hh fun a3 hh =>
(onSome_pro hh fun a4 hh =>
(onSome_pro hh fun a5 hh =>
(onSome_pro hh fun a6 hh =>
(onSome_pro hh fun a7 hh =>
(onSome_pro hh fun a8 hh =>
(onSome_pro hh fun a9 hh =>
(box_set (i := 0) s rfl rfl rfl fun _ s =>
(box_set (i := 0) s rfl rfl rfl fun _ s =>
(box_set (i := 0) s rfl rfl rfl fun _ s =>
(box_set (i := 0) s rfl rfl rfl fun _ s =>
(box_set (i := 0) s rfl rfl rfl fun _ s =>
(box_set (i := 0) s rfl rfl rfl fun _ s =>
(box_set (i := 0) s rfl rfl rfl fun _ s =>
(box_set (i := 0) s rfl rfl rfl fun _ s =>
(have s : Sim _ _ ((b1, [(.pointer (some a2)), (.pointer (some (Addr.add a3 1))), (.pointer (some (Addr.add a4 2))), (.pointer (some (Addr.add a5 3))), (.pointer (some (Addr.add a6 4))), (.pointer (some (Addr.add a7 5))), (.pointer (some (Addr.add a8 6))), (.pointer (some (Addr.add a9 7)))], 103) :: L) _ := s;
(box_P (i := 0) s rfl rfl
(box_P (i := 0) s rfl rfl
(box_P (i := 0) s rfl rfl
(box_P (i := 0) s rfl rfl
(box_P (i := 0) s rfl rfl
(box_P (i := 0) s rfl rfl
(box_P (i := 0) s rfl rfl
(box_P (i := 0) s rfl rfl
(hq _ _ _ _ _ _ _ _ _ _ (s.keep (.cons _ (List.Sublist.refl _))) hh)))))))))))))))))))))))))))

/- demesne/pte.places -/
def pte_places_A (Q : Int → Int → Int → Int → Int → Int → Int → Int → AH → Prop) (h : AH) : Prop :=
(Q (0 : Int) (1 : Int) (2 : Int) (5 : Int) (6 : Int) (7 : Int) (8 : Int) (63 : Int) h)
set_option maxHeartbeats 4000000 in
theorem pte_places_pro {Z : Nat → Prop} {A : AH} {L : Bx} {h : Hp} {Q : Int → Int → Int → Int → Int → Int → Int → Int → Hp → Prop} {Q2 : Int → Int → Int → Int → Int → Int → Int → Int → AH → Prop} (hq : ∀ r0 r1 r2 r3 r4 r5 r6 r7 A h, Sim Z A L h → Q2 r0 r1 r2 r3 r4 r5 r6 r7 A → Q r0 r1 r2 r3 r4 r5 r6 r7 h) (s : Sim Z A L h) (hh : pte_places_A  Q2 A) : pte_places  Q h := by
  unfold pte_places_A at hh
  unfold pte_places
  exact (box_new s fun b1 _ s =>
(box_set (i := 0) s rfl rfl rfl fun _ s =>
(box_set (i := 0) s rfl rfl rfl fun _ s =>
(box_set (i := 0) s rfl rfl rfl fun _ s =>
(box_set (i := 0) s rfl rfl rfl fun _ s =>
(box_set (i := 0) s rfl rfl rfl fun _ s =>
(box_set (i := 0) s rfl rfl rfl fun _ s =>
(box_set (i := 0) s rfl rfl rfl fun _ s =>
(box_set (i := 0) s rfl rfl rfl fun _ s =>
(have s : Sim _ _ ((b1, [(.int .i64 (0 : Int)), (.int .i64 (1 : Int)), (.int .i64 (2 : Int)), (.int .i64 (5 : Int)), (.int .i64 (6 : Int)), (.int .i64 (7 : Int)), (.int .i64 (8 : Int)), (.int .i64 (63 : Int))], 105) :: L) _ := s;
(box_I (i := 0) s rfl rfl
(box_I (i := 0) s rfl rfl
(box_I (i := 0) s rfl rfl
(box_I (i := 0) s rfl rfl
(box_I (i := 0) s rfl rfl
(box_I (i := 0) s rfl rfl
(box_I (i := 0) s rfl rfl
(box_I (i := 0) s rfl rfl
(hq _ _ _ _ _ _ _ _ _ _ (s.keep (.cons _ (List.Sublist.refl _))) hh)))))))))))))))))))

/- demesne/pte.Unpack -/
def pte_Unpack_A (p0 : Int) (Q : Bool → Bool → Bool → Bool → Bool → Bool → Bool → Bool → Int → AH → Prop) (h : AH) : Prop :=
(newA h (.cells #[(.bool false), (.bool false), (.bool false), (.bool false), (.bool false), (.bool false), (.bool false), (.bool false), (.int .i64 (0 : Int))] 85) fun b2 h3 =>
(aC (Addr.mk b2 0 none) (.bool false) h3 fun h4 =>
(aC (Addr.add (Addr.mk b2 0 none) 1) (.bool false) h4 fun h5 =>
(aC (Addr.add (Addr.mk b2 0 none) 2) (.bool false) h5 fun h6 =>
(aC (Addr.add (Addr.mk b2 0 none) 3) (.bool false) h6 fun h7 =>
(aC (Addr.add (Addr.mk b2 0 none) 4) (.bool false) h7 fun h8 =>
(aC (Addr.add (Addr.mk b2 0 none) 5) (.bool false) h8 fun h9 =>
(aC (Addr.add (Addr.mk b2 0 none) 6) (.bool false) h9 fun h10 =>
(aC (Addr.add (Addr.mk b2 0 none) 7) (.bool false) h10 fun h11 =>
(aC (Addr.add (Addr.mk b2 0 none) 8) (.int .i64 (IntKind.wrap .i64 (bits .and .u64 (Int.fdiv p0 (2 ^ (12 : Nat))) (1048575 : Int)))) h11 fun h12 =>
(pte_Entry_flags_A (some (Addr.mk b2 0 none)) (fun pt13 pt14 pt15 pt16 pt17 pt18 pt19 pt20 h21 =>
(∃ I22 : Int → Nat → AH → Prop, (∃ m23, I22 (0 : Int) m23 h21) ∧ ∀ x26 : Int, ∀ m23 h25, I22 x26 m23 h25 → 
(bsel (decide (x26 < (8 : Int)))
(inB x26 8
(geP [(.pointer pt13), (.pointer pt14), (.pointer pt15), (.pointer pt16), (.pointer pt17), (.pointer pt18), (.pointer pt19), (.pointer pt20)] (Int.toNat x26) fun n27 =>
(pte_places_A  (fun n28 n29 n30 n31 n32 n33 n34 n35 h36 =>
(inB x26 8
(geI .i64 [(.int .i64 n28), (.int .i64 n29), (.int .i64 n30), (.int .i64 n31), (.int .i64 n32), (.int .i64 n33), (.int .i64 n34), (.int .i64 n35)] (Int.toNat x26) fun n37 =>
(bsel (decide (n37 < 0)) False
(onSome n27 fun a38 =>
(aC a38 (.bool ((bits .and .u64 (Int.fdiv p0 (2 ^ (min (Int.toNat n37) 64))) (1 : Int)) == (1 : Int))) h36 fun h39 =>
(∃ m24, m24 < m23 ∧ I22 (IntKind.wrap .i64 (x26 + (1 : Int))) m24 h39))))))) h25)))
(aB (Addr.mk b2 0 none) h25 fun b40 =>
(aB (Addr.add (Addr.mk b2 0 none) 1) h25 fun b41 =>
(aB (Addr.add (Addr.mk b2 0 none) 2) h25 fun b42 =>
(aB (Addr.add (Addr.mk b2 0 none) 3) h25 fun b43 =>
(aB (Addr.add (Addr.mk b2 0 none) 4) h25 fun b44 =>
(aB (Addr.add (Addr.mk b2 0 none) 5) h25 fun b45 =>
(aB (Addr.add (Addr.mk b2 0 none) 6) h25 fun b46 =>
(aB (Addr.add (Addr.mk b2 0 none) 7) h25 fun b47 =>
(aI .i64 (Addr.add (Addr.mk b2 0 none) 8) h25 fun n48 =>
(Q b40 b41 b42 b43 b44 b45 b46 b47 n48 h25))))))))))))) h12)))))))))))
set_option maxHeartbeats 4000000 in
theorem pte_Unpack_pro {Z : Nat → Prop} {A : AH} {L : Bx} {h : Hp} {p0 : Int} {Q : Bool → Bool → Bool → Bool → Bool → Bool → Bool → Bool → Int → Hp → Prop} {Q2 : Bool → Bool → Bool → Bool → Bool → Bool → Bool → Bool → Int → AH → Prop} (hq : ∀ r0 r1 r2 r3 r4 r5 r6 r7 r8 A h, Sim Z A L h → Q2 r0 r1 r2 r3 r4 r5 r6 r7 r8 A → Q r0 r1 r2 r3 r4 r5 r6 r7 r8 h) (s : Sim Z A L h) (hh : pte_Unpack_A p0 Q2 A) : pte_Unpack p0 Q h := by
  unfold pte_Unpack_A at hh
  unfold pte_Unpack pte_Unpack_G
  exact (box_new s fun b1 _ s =>
(newA_pro s (by first | exact rfl | exact True.intro) hh fun b2 _ _ s hh =>
(aC_pro s hh fun _ _ s hh =>
(aC_pro s hh fun _ _ s hh =>
(aC_pro s hh fun _ _ s hh =>
(aC_pro s hh fun _ _ s hh =>
(aC_pro s hh fun _ _ s hh =>
(aC_pro s hh fun _ _ s hh =>
(aC_pro s hh fun _ _ s hh =>
(aC_pro s hh fun _ _ s hh =>
(aC_pro s hh fun _ _ s hh =>
(pte_Entry_flags_pro (fun pt13 pt14 pt15 pt16 pt17 pt18 pt19 pt20 _ _ s hh =>
(match hh with | ⟨I22, ⟨q0, q1⟩, q2⟩ => ⟨fun x26 m h => ∃ A, Sim Z A ((b1, [(.bool false), (.bool false), (.bool false), (.bool false), (.bool false), (.bool false), (.bool false), (.bool false), (.int .i64 (0 : Int))], 85) :: L) h ∧ I22 x26 m A, ⟨q0, _, s, q1⟩, fun x26 m23 h ⟨h25, s, q3⟩ => (have hh := q2 x26 m23 h25 q3;
(bsel_pro hh (fun hh =>
(inB_pro hh fun hh =>
(geP_pro hh fun n27 hh =>
(pte_places_pro (fun n28 n29 n30 n31 n32 n33 n34 n35 _ _ s hh =>
(inB_pro hh fun hh =>
(geI_pro hh fun n37 hh =>
(bsel_pro hh (fun hh => hh) (fun hh =>
(onSome_pro hh fun a38 hh =>
(aC_pro s hh fun _ _ s hh =>
(match hh with | ⟨m24, q1, q2⟩ => ⟨m24, q1, _, s, q2⟩)))))))) s hh)))) (fun hh =>
(aB_pro s hh fun b40 hh =>
(aB_pro s hh fun b41 hh =>
(aB_pro s hh fun b42 hh =>
(aB_pro s hh fun b43 hh =>
(aB_pro s hh fun b44 hh =>
(aB_pro s hh fun b45 hh =>
(aB_pro s hh fun b46 hh =>
(aB_pro s hh fun b47 hh =>
(aI_pro s hh fun n48 hh =>
(box_set (i := 0) s rfl rfl rfl fun _ s =>
(box_set (i := 0) s rfl rfl rfl fun _ s =>
(box_set (i := 0) s rfl rfl rfl fun _ s =>
(box_set (i := 0) s rfl rfl rfl fun _ s =>
(box_set (i := 0) s rfl rfl rfl fun _ s =>
(box_set (i := 0) s rfl rfl rfl fun _ s =>
(box_set (i := 0) s rfl rfl rfl fun _ s =>
(box_set (i := 0) s rfl rfl rfl fun _ s =>
(box_set (i := 0) s rfl rfl rfl fun _ s =>
(have s : Sim _ _ ((b1, [(.bool b40), (.bool b41), (.bool b42), (.bool b43), (.bool b44), (.bool b45), (.bool b46), (.bool b47), (.int .i64 n48)], 85) :: L) _ := s;
(box_B (i := 0) s rfl rfl
(box_B (i := 0) s rfl rfl
(box_B (i := 0) s rfl rfl
(box_B (i := 0) s rfl rfl
(box_B (i := 0) s rfl rfl
(box_B (i := 0) s rfl rfl
(box_B (i := 0) s rfl rfl
(box_B (i := 0) s rfl rfl
(box_I (i := 0) s rfl rfl
(hq _ _ _ _ _ _ _ _ _ _ _ (s.keep (.cons _ (List.Sublist.refl _))) hh))))))))))))))))))))))))))))))))⟩)) s hh))))))))))))

/- (*demesne/walk.walker).fault -/
def walk_walker_fault_A (p0 : Option Addr) (p1 : Int) (_Q : AH → Prop) (Kp : Value → AH → Prop) (h : AH) : Prop :=
(∃ R1 : Int → AH → Prop, (∀ x4 : Int, ∀ h5, R1 x4 h5 → 
(∃ R6 : Int → AH → Prop, (∀ x9 : Int, ∀ h10, R6 x9 h10 → 
(∃ R11 : Int → AH → Prop, (∀ x14 : Int, ∀ h15, R11 x14 h15 → 
(onSome p0 fun a16 =>
(aI .u64 (Addr.add a16 1) h15 fun n17 =>
(Kp (.iface 71 (.agg #[(.int .u64 n17), (.int .i64 x14), (.int .i64 (9 : Int))])) h15)))) ∧
(onSome p0 fun a12 =>
(aB (Addr.add (Addr.add a12 2) 2) h10 fun b13 =>
(bsel b13
(R11 (bits .or .i64 x9 (16 : Int)) h10)
(R11 x9 h10)))))) ∧
(onSome p0 fun a7 =>
(aB (Addr.add (Addr.add a7 2) 1) h5 fun b8 =>
(bsel b8
(R6 (bits .or .i64 x4 (4 : Int)) h5)
(R6 x4 h5)))))) ∧
(onSome p0 fun a2 =>
(aB (Addr.add a2 2) h fun b3 =>
(bsel b3
(R1 (bits .or .i64 p1 (2 : Int)) h)
(R1 p1 h)))))
set_option maxHeartbeats 4000000 in
theorem walk_walker_fault_pro {Z : Nat → Prop} {A : AH} {L : Bx} {h : Hp} {p0 : Option Addr} {p1 : Int} {Q : Hp → Prop} {Q2 : AH → Prop} {Kp : Value → Hp → Prop} {Kp2 : Value → AH → Prop} (hq : ∀  A h, Sim Z A L h → Q2  A → Q  h) (hp : ∀ v A h, Sim Z A L h → Kp2 v A → Kp v h) (s : Sim Z A L h) (hh : walk_walker_fault_A p0 p1 Q2 Kp2 A) : walk_walker_fault p0 p1 Q Kp h := by
  unfold walk_walker_fault_A at hh
  unfold walk_walker_fault
  exact (match hh with | ⟨R1, q1, hh⟩ => ⟨fun x4 h => ∃ A, Sim Z A (L) h ∧ R1 x4 A, fun x4 h ⟨h5, s, q2⟩ => (have hh := q1 x4 h5 q2;
(match hh with | ⟨R6, q1, hh⟩ => ⟨fun x9 h => ∃ A, Sim Z A (L) h ∧ R6 x9 A, fun x9 h ⟨h10, s, q2⟩ => (have hh := q1 x9 h10 q2;
(match hh with | ⟨R11, q1, hh⟩ => ⟨fun x14 h => ∃ A, Sim Z A (L) h ∧ R11 x14 A, fun x14 h ⟨h15, s, q2⟩ => (have hh := q1 x14 h15 q2;
(onSome_pro hh fun a16 hh =>
(aI_pro s hh fun n17 hh =>
(hp _ _ _ s hh)))),
(onSome_pro hh fun a12 hh =>
(aB_pro s hh fun b13 hh =>
(bsel_pro hh (fun hh =>
⟨_, s, hh⟩) (fun hh =>
⟨_, s, hh⟩))))⟩)),
(onSome_pro hh fun a7 hh =>
(aB_pro s hh fun b8 hh =>
(bsel_pro hh (fun hh =>
⟨_, s, hh⟩) (fun hh =>
⟨_, s, hh⟩))))⟩)),
(onSome_pro hh fun a2 hh =>
(aB_pro s hh fun b3 hh =>
(bsel_pro hh (fun hh =>
⟨_, s, hh⟩) (fun hh =>
⟨_, s, hh⟩))))⟩)

/- demesne/pte.Reserved -/
def pte_Reserved_A (p0 : Int) (p1 : Int) (Q : Bool → AH → Prop) (h : AH) : Prop :=
(bsel ((bits .and .u64 p0 (1 : Int)) == (0 : Int))
(Q false h)
(bsel ((bits .and .u64 (Int.fdiv p0 (2 ^ (32 : Nat))) (1048575 : Int)) != (0 : Int))
(Q true h)
(bsel (decide (p1 ≥ (3 : Int)))
(Q ((bits .and .u64 (Int.fdiv p0 (2 ^ (7 : Nat))) (1 : Int)) == (1 : Int)) h)
(bsel (p1 == (2 : Int))
(bsel ((bits .and .u64 (Int.fdiv p0 (2 ^ (7 : Nat))) (1 : Int)) == (1 : Int))
(Q ((bits .and .u64 (Int.fdiv p0 (2 ^ (12 : Nat))) (511 : Int)) != (0 : Int)) h)
(Q false h))
(Q false h)))))
set_option maxHeartbeats 4000000 in
theorem pte_Reserved_pro {Z : Nat → Prop} {A : AH} {L : Bx} {h : Hp} {p0 : Int} {p1 : Int} {Q : Bool → Hp → Prop} {Q2 : Bool → AH → Prop} (hq : ∀ r0 A h, Sim Z A L h → Q2 r0 A → Q r0 h) (s : Sim Z A L h) (hh : pte_Reserved_A p0 p1 Q2 A) : pte_Reserved p0 p1 Q h := by
  unfold pte_Reserved_A at hh
  unfold pte_Reserved
  exact (bsel_pro hh (fun hh =>
(hq _ _ _ s hh)) (fun hh =>
(bsel_pro hh (fun hh =>
(hq _ _ _ s hh)) (fun hh =>
(bsel_pro hh (fun hh =>
(hq _ _ _ s hh)) (fun hh =>
(bsel_pro hh (fun hh =>
(bsel_pro hh (fun hh =>
(hq _ _ _ s hh)) (fun hh =>
(hq _ _ _ s hh)))) (fun hh =>
(hq _ _ _ s hh)))))))))

/- (*demesne/walk.walker).entry -/
def walk_walker_entry_A (p0 : Option Addr) (p1 : Int) (p2 : Int) (p3 : Int) (Q : Int → Int → AH → Prop) (Kp : Value → AH → Prop) (h : AH) : Prop :=
(onSome p0 fun a1 =>
(aP a1 h fun pt2 =>
(ram_RAM_Load_A pt2 (IntKind.wrap .u64 ((IntKind.wrap .u64 ((IntKind.wrap .u64 p1) * (4096 : Int))) + (IntKind.wrap .u64 (IntKind.wrap .i64 ((8 : Int) * p2))))) (8 : Int) (fun n3 n4 h5 =>
(∃ R6 : AH → Prop, (∀ h7, R6 h7 → 
(∃ R8 : AH → Prop, (∀ h12, R8 h12 → 
(∃ R13 : AH → Prop, (∀ h19, R13 h19 → 
(pte_Unpack_A n3 (fun b20 b21 b22 b23 b24 b25 b26 b27 n28 h29 =>
(∃ R31 : AH → Prop, (∀ h38, R31 h38 → 
(∃ R39 : AH → Prop, (∀ h46, R39 h46 → 
(onSome p0 fun a47 =>
(aB (Addr.add (Addr.add a47 5) 2) h46 fun b48 =>
(bsel b48
(onSome p0 fun a49 =>
(aC (Addr.add (Addr.add a49 5) 2) (.bool (!b27)) h46 fun h50 =>
(Q n3 (IntKind.wrap .u64 ((IntKind.wrap .u64 ((IntKind.wrap .u64 p1) * (4096 : Int))) + (IntKind.wrap .u64 (IntKind.wrap .i64 ((8 : Int) * p2))))) h50)))
(onSome p0 fun a51 =>
(aC (Addr.add (Addr.add a51 5) 2) (.bool false) h46 fun h52 =>
(Q n3 (IntKind.wrap .u64 ((IntKind.wrap .u64 ((IntKind.wrap .u64 p1) * (4096 : Int))) + (IntKind.wrap .u64 (IntKind.wrap .i64 ((8 : Int) * p2))))) h52))))))) ∧
(onSome p0 fun a40 =>
(aB (Addr.add (Addr.add a40 5) 1) h38 fun b41 =>
(bsel b41
(onSome p0 fun a42 =>
(aC (Addr.add (Addr.add a42 5) 1) (.bool b22) h38 fun h43 =>
(R39 h43)))
(onSome p0 fun a44 =>
(aC (Addr.add (Addr.add a44 5) 1) (.bool false) h38 fun h45 =>
(R39 h45)))))))) ∧
(onSome p0 fun a32 =>
(aB (Addr.add a32 5) h29 fun b33 =>
(bsel b33
(onSome p0 fun a34 =>
(aC (Addr.add a34 5) (.bool b21) h29 fun h35 =>
(R31 h35)))
(onSome p0 fun a36 =>
(aC (Addr.add a36 5) (.bool false) h29 fun h37 =>
(R31 h37)))))))) h19)) ∧
(pte_Reserved_A n3 p3 (fun b14 h15 =>
(bsel b14
(walk_walker_fault_A p0 (9 : Int) (fun  h16 =>
(R13 h16)) (fun v17 h18 => (Kp v17 h18)) h15)
(R13 h15))) h12))) ∧
(bsel ((bits .and .u64 n3 (1 : Int)) == (0 : Int))
(walk_walker_fault_A p0 (0 : Int) (fun  h9 =>
(R8 h9)) (fun v10 h11 => (Kp v10 h11)) h7)
(R8 h7)))) ∧
(bsel (n4 != (0 : Int))
(Kp (.iface 71 (.agg #[(.int .u64 (0 : Int)), (.int .i64 (0 : Int)), (.int .i64 n4)])) h5)
(R6 h5)))) h)))
set_option maxHeartbeats 4000000 in
theorem walk_walker_entry_pro {Z : Nat → Prop} {A : AH} {L : Bx} {h : Hp} {p0 : Option Addr} {p1 : Int} {p2 : Int} {p3 : Int} {Q : Int → Int → Hp → Prop} {Q2 : Int → Int → AH → Prop} {Kp : Value → Hp → Prop} {Kp2 : Value → AH → Prop} (hq : ∀ r0 r1 A h, Sim Z A L h → Q2 r0 r1 A → Q r0 r1 h) (hp : ∀ v A h, Sim Z A L h → Kp2 v A → Kp v h) (s : Sim Z A L h) (hh : walk_walker_entry_A p0 p1 p2 p3 Q2 Kp2 A) : walk_walker_entry p0 p1 p2 p3 Q Kp h := by
  unfold walk_walker_entry_A at hh
  unfold walk_walker_entry walk_walker_entry_G
  exact (onSome_pro hh fun a1 hh =>
(aP_pro s hh fun pt2 hh =>
(ram_RAM_Load_pro (fun n3 n4 _ _ s hh =>
(match hh with | ⟨R6, q1, hh⟩ => ⟨fun  h => ∃ A, Sim Z A (L) h ∧ R6 A, fun  h ⟨h7, s, q2⟩ => (have hh := q1 h7 q2;
(match hh with | ⟨R8, q1, hh⟩ => ⟨fun  h => ∃ A, Sim Z A (L) h ∧ R8 A, fun  h ⟨h12, s, q2⟩ => (have hh := q1 h12 q2;
(match hh with | ⟨R13, q1, hh⟩ => ⟨fun  h => ∃ A, Sim Z A (L) h ∧ R13 A, fun  h ⟨h19, s, q2⟩ => (have hh := q1 h19 q2;
(pte_Unpack_pro (fun b20 b21 b22 b23 b24 b25 b26 b27 n28 _ _ s hh =>
(box_new s fun b30 _ s =>
(box_set (i := 0) s rfl rfl rfl fun _ s =>
(box_set (i := 0) s rfl rfl rfl fun _ s =>
(box_set (i := 0) s rfl rfl rfl fun _ s =>
(box_set (i := 0) s rfl rfl rfl fun _ s =>
(box_set (i := 0) s rfl rfl rfl fun _ s =>
(box_set (i := 0) s rfl rfl rfl fun _ s =>
(box_set (i := 0) s rfl rfl rfl fun _ s =>
(box_set (i := 0) s rfl rfl rfl fun _ s =>
(box_set (i := 0) s rfl rfl rfl fun _ s =>
(have s : Sim _ _ ((b30, [(.bool b20), (.bool b21), (.bool b22), (.bool b23), (.bool b24), (.bool b25), (.bool b26), (.bool b27), (.int .i64 n28)], 85) :: L) _ := s;
(match hh with | ⟨R31, q1, hh⟩ => ⟨fun  h => ∃ A, Sim Z A ((b30, [(.bool b20), (.bool b21), (.bool b22), (.bool b23), (.bool b24), (.bool b25), (.bool b26), (.bool b27), (.int .i64 n28)], 85) :: L) h ∧ R31 A, fun  h ⟨h38, s, q2⟩ => (have hh := q1 h38 q2;
(match hh with | ⟨R39, q1, hh⟩ => ⟨fun  h => ∃ A, Sim Z A ((b30, [(.bool b20), (.bool b21), (.bool b22), (.bool b23), (.bool b24), (.bool b25), (.bool b26), (.bool b27), (.int .i64 n28)], 85) :: L) h ∧ R39 A, fun  h ⟨h46, s, q2⟩ => (have hh := q1 h46 q2;
(onSome_pro hh fun a47 hh =>
(aB_pro s hh fun b48 hh =>
(bsel_pro hh (fun hh =>
(box_B (i := 0) s rfl rfl
(onSome_pro hh fun a49 hh =>
(aC_pro s hh fun _ _ s hh =>
(hq _ _ _ _ (s.keep (.cons _ (List.Sublist.refl _))) hh))))) (fun hh =>
(onSome_pro hh fun a51 hh =>
(aC_pro s hh fun _ _ s hh =>
(hq _ _ _ _ (s.keep (.cons _ (List.Sublist.refl _))) hh)))))))),
(onSome_pro hh fun a40 hh =>
(aB_pro s hh fun b41 hh =>
(bsel_pro hh (fun hh =>
(box_B (i := 0) s rfl rfl
(onSome_pro hh fun a42 hh =>
(aC_pro s hh fun _ _ s hh =>
⟨_, s, hh⟩)))) (fun hh =>
(onSome_pro hh fun a44 hh =>
(aC_pro s hh fun _ _ s hh =>
⟨_, s, hh⟩))))))⟩)),
(onSome_pro hh fun a32 hh =>
(aB_pro s hh fun b33 hh =>
(bsel_pro hh (fun hh =>
(box_B (i := 0) s rfl rfl
(onSome_pro hh fun a34 hh =>
(aC_pro s hh fun _ _ s hh =>
⟨_, s, hh⟩)))) (fun hh =>
(onSome_pro hh fun a36 hh =>
(aC_pro s hh fun _ _ s hh =>
⟨_, s, hh⟩))))))⟩))))))))))))) s hh)),
(pte_Reserved_pro (fun b14 _ _ s hh =>
(bsel_pro hh (fun hh =>
(walk_walker_fault_pro (fun  _ _ s hh =>
⟨_, s, hh⟩) (fun v17 _ _ s hh =>
(hp _ _ _ s hh)) s hh)) (fun hh =>
⟨_, s, hh⟩))) s hh)⟩)),
(bsel_pro hh (fun hh =>
(walk_walker_fault_pro (fun  _ _ s hh =>
⟨_, s, hh⟩) (fun v10 _ _ s hh =>
(hp _ _ _ s hh)) s hh)) (fun hh =>
⟨_, s, hh⟩))⟩)),
(bsel_pro hh (fun hh =>
(hp _ _ _ s hh)) (fun hh =>
⟨_, s, hh⟩))⟩)) s hh)))

/- demesne/walk.mark -/
def walk_mark_A (p0 : Option Addr) (p1 : Sl) (p2 : Bool) (Q : AH → Prop) (h : AH) : Prop :=
(∃ I1 : Int → Nat → AH → Prop, (∃ m2, I1 (0 : Int) m2 h) ∧ ∀ x5 : Int, ∀ m2 h4, I1 x5 m2 h4 → 
(bsel (decide (x5 < (Int.ofNat p1.len)))
(∃ R6 : AH → Prop, (∀ h17, R6 h17 → 
(∃ m3, m3 < m2 ∧ I1 (IntKind.wrap .i64 (x5 + (1 : Int))) m3 h17)) ∧
(onSome p1.a fun a7 =>
(inB x5 p1.len
(aI .u64 (Addr.add a7 (Int.toNat x5 * 1)) h4 fun n8 =>
(ram_RAM_Load_A p0 n8 (8 : Int) (fun n9 n10 h11 =>
(∃ R12 : Int → AH → Prop, (∀ x13 : Int, ∀ h14, R12 x13 h14 → 
(bsel (x13 != n9)
(ram_RAM_Store_A p0 n8 (8 : Int) x13 (fun n15 h16 =>
(R6 h16)) h14)
(R6 h14))) ∧
(bsel p2
(bsel (x5 == (IntKind.wrap .i64 ((Int.ofNat p1.len) - (1 : Int))))
(R12 (bits .or .u64 (bits .or .u64 n9 (32 : Int)) (64 : Int)) h11)
(R12 (bits .or .u64 n9 (32 : Int)) h11))
(R12 (bits .or .u64 n9 (32 : Int)) h11)))) h4)))))
(Q h4)))
set_option maxHeartbeats 4000000 in
theorem walk_mark_pro {Z : Nat → Prop} {A : AH} {L : Bx} {h : Hp} {p0 : Option Addr} {p1 : Sl} {p2 : Bool} {Q : Hp → Prop} {Q2 : AH → Prop} (hq : ∀  A h, Sim Z A L h → Q2  A → Q  h) (s : Sim Z A L h) (hh : walk_mark_A p0 p1 p2 Q2 A) : walk_mark p0 p1 p2 Q h := by
  unfold walk_mark_A at hh
  unfold walk_mark walk_mark_G
  exact (match hh with | ⟨I1, ⟨q0, q1⟩, q2⟩ => ⟨fun x5 m h => ∃ A, Sim Z A (L) h ∧ I1 x5 m A, ⟨q0, _, s, q1⟩, fun x5 m2 h ⟨h4, s, q3⟩ => (have hh := q2 x5 m2 h4 q3;
(bsel_pro hh (fun hh =>
(match hh with | ⟨R6, q1, hh⟩ => ⟨fun  h => ∃ A, Sim Z A (L) h ∧ R6 A, fun  h ⟨h17, s, q2⟩ => (have hh := q1 h17 q2;
(match hh with | ⟨m3, q1, q2⟩ => ⟨m3, q1, _, s, q2⟩)),
(onSome_pro hh fun a7 hh =>
(inB_pro hh fun hh =>
(aI_pro s hh fun n8 hh =>
(ram_RAM_Load_pro (fun n9 n10 _ _ s hh =>
(match hh with | ⟨R12, q1, hh⟩ => ⟨fun x13 h => ∃ A, Sim Z A (L) h ∧ R12 x13 A, fun x13 h ⟨h14, s, q2⟩ => (have hh := q1 x13 h14 q2;
(bsel_pro hh (fun hh =>
(ram_RAM_Store_pro (fun n15 _ _ s hh =>
⟨_, s, hh⟩) s hh)) (fun hh =>
⟨_, s, hh⟩))),
(bsel_pro hh (fun hh =>
(bsel_pro hh (fun hh =>
⟨_, s, hh⟩) (fun hh =>
⟨_, s, hh⟩))) (fun hh =>
⟨_, s, hh⟩))⟩)) s hh))))⟩)) (fun hh =>
(hq  _ _ s hh))))⟩)

def walk_Walk_1_nA (_p0 : Option Addr) (_p1 : Option Addr) (_p2 : Option Addr) (K : AP) (h : AH) : Prop :=
(K h)
theorem walk_Walk_1_nPro {Z : Nat → Prop} {A : AH} {L : Bx} {h : Hp} {p0 : Option Addr} {p1 : Option Addr} {p2 : Option Addr} {Q : HP} {Q2 : AP} (hq : ∀ A h, Sim Z A L h → Q2 A → Q h) (s : Sim Z A L h) (hh : walk_Walk_1_nA p0 p1 p2 Q2 A) : walk_Walk_1_n p0 p1 p2 Q h := by
  unfold walk_Walk_1_nA at hh
  unfold walk_Walk_1_n
  exact (box_new s fun b1 _ s =>
(box_set (i := 0) s rfl rfl rfl fun _ s =>
(box_set (i := 0) s rfl rfl rfl fun _ s =>
(box_set (i := 0) s rfl rfl rfl fun _ s =>
(have s : Sim _ _ ((b1, [(.int .u64 (0 : Int)), (.int .i64 (0 : Int)), (.int .i64 (0 : Int))], 71) :: L) _ := s;
(hq _ _ (s.keep (.cons _ (List.Sublist.refl _))) hh))))))
def walk_Walk_1_pA (p0 : Option Addr) (p1 : Option Addr) (p2 : Option Addr) (y0 : Int) (y1 : Int) (y2 : Int) (K : AP) (h : AH) : Prop :=
(∃ S2 : AP, S2 h ∧
(S2 h ∧ (∀ h17 : AH, S2 h17 → (((.agg #[(.int .u64 y0), (.int .i64 y1)]) : Value) = (.agg #[(.int .u64 y0), (.int .i64 y1)]))) ∧
(S2 h ∧ (∀ h16 : AH, S2 h16 → (((.int .i64 y2) : Value) = (.int .i64 y2))) ∧
(onSome p0 fun a3 =>
(aC a3 (.int .i64 (0 : Int)) h fun h4 =>
(aC (Addr.add a3 1) (.bool false) h4 fun h5 =>
(aC (Addr.add a3 2) (.bool false) h5 fun h6 =>
(aC (Addr.add a3 3) (.bool false) h6 fun h7 =>
(aC (Addr.add a3 4) (.bool false) h7 fun h8 =>
(aC (Addr.add a3 5) (.bool false) h8 fun h9 =>
(aC (Addr.add a3 6) (.bool false) h9 fun h10 =>
(S2 h10 ∧
(onSome p1 fun a11 =>
(aC a11 (.int .u64 y0) h10 fun h12 =>
(aC (Addr.add a11 1) (.int .i64 y1) h12 fun h13 =>
(S2 h13 ∧
(onSome p2 fun a14 =>
(aC a14 (.int .i64 y2) h13 fun h15 =>
(K h15)))))))))))))))))))
theorem walk_Walk_1_pPro {Z : Nat → Prop} {A : AH} {L : Bx} {h : Hp} {p0 : Option Addr} {p1 : Option Addr} {p2 : Option Addr} {y0 : Int} {y1 : Int} {y2 : Int} {Q : HP} {Q2 : AP} (hq : ∀ A h, Sim Z A L h → Q2 A → Q h) (s : Sim Z A L h) (hh : walk_Walk_1_pA p0 p1 p2 y0 y1 y2 Q2 A) : walk_Walk_1_p p0 p1 p2 y0 y1 y2 Q h := by
  unfold walk_Walk_1_pA at hh
  unfold walk_Walk_1_p
  exact (box_new s fun b1 _ s =>
(box_set (i := 0) s rfl rfl rfl fun _ s =>
(box_set (i := 0) s rfl rfl rfl fun _ s =>
(box_set (i := 0) s rfl rfl rfl fun _ s =>
(have s : Sim _ _ ((b1, [(.int .u64 y0), (.int .i64 y1), (.int .i64 y2)], 71) :: L) _ := s;
(match hh with | ⟨S2, q0, hh⟩ => ⟨fun h => ∃ A, Sim Z A ((b1, [(.int .u64 y0), (.int .i64 y1), (.int .i64 y2)], 71) :: L) h ∧ S2 A, ⟨_, s, q0⟩,
(box_I (i := 0) s rfl rfl
(box_I (i := 0) s rfl rfl
(match hh with | ⟨q1, q2, hh⟩ => ⟨⟨_, s, q1⟩, fun _ ⟨h17, s, q1⟩ => (have hh := q2 h17 q1;
(box_I (i := 0) s rfl rfl
(box_I (i := 0) s rfl rfl
hh))),
(box_I (i := 0) s rfl rfl
(match hh with | ⟨q1, q2, hh⟩ => ⟨⟨_, s, q1⟩, fun _ ⟨h16, s, q1⟩ => (have hh := q2 h16 q1;
(box_I (i := 0) s rfl rfl
hh)),
(onSome_pro hh fun a3 hh =>
(aC_pro s hh fun _ _ s hh =>
(aC_pro s hh fun _ _ s hh =>
(aC_pro s hh fun _ _ s hh =>
(aC_pro s hh fun _ _ s hh =>
(aC_pro s hh fun _ _ s hh =>
(aC_pro s hh fun _ _ s hh =>
(aC_pro s hh fun _ _ s hh =>
(match hh with | ⟨q1, hh⟩ => ⟨⟨_, s, q1⟩,
(onSome_pro hh fun a11 hh =>
(aC_pro s hh fun _ _ s hh =>
(aC_pro s hh fun _ _ s hh =>
(match hh with | ⟨q1, hh⟩ => ⟨⟨_, s, q1⟩,
(onSome_pro hh fun a14 hh =>
(aC_pro s hh fun _ _ s hh =>
(hq _ _ (s.keep (.cons _ (List.Sublist.refl _))) hh)))⟩))))⟩)))))))))⟩))⟩)))⟩))))))
/- demesne/walk.Walk -/
def walk_Walk_A (p0 : Option Addr) (p1 : Int) (p2 : Int) (p3 : Bool) (p4 : Bool) (p5 : Bool) (Q : Int → Bool → Bool → Bool → Bool → Bool → Bool → Int → Int → Int → AH → Prop) (h : AH) : Prop :=
(newA h (.cells #[(.int .i64 (0 : Int)), (.bool false), (.bool false), (.bool false), (.bool false), (.bool false), (.bool false)] 40) fun b2 h3 =>
(newA h3 (.cells #[(.int .u64 (0 : Int)), (.int .i64 (0 : Int))] 42) fun b4 h5 =>
(newA h5 (.cells #[(.int .i64 (0 : Int))] 43) fun b6 h7 =>
(pte_Canonical_A p2 (fun b8 h9 =>
(bsel (!b8)
(aC (Addr.mk b2 0 none) (.int .i64 (0 : Int)) h9 fun h10 =>
(aC (Addr.add (Addr.mk b2 0 none) 1) (.bool false) h10 fun h11 =>
(aC (Addr.add (Addr.mk b2 0 none) 2) (.bool false) h11 fun h12 =>
(aC (Addr.add (Addr.mk b2 0 none) 3) (.bool false) h12 fun h13 =>
(aC (Addr.add (Addr.mk b2 0 none) 4) (.bool false) h13 fun h14 =>
(aC (Addr.add (Addr.mk b2 0 none) 5) (.bool false) h14 fun h15 =>
(aC (Addr.add (Addr.mk b2 0 none) 6) (.bool false) h15 fun h16 =>
(aC (Addr.mk b4 0 none) (.int .u64 (0 : Int)) h16 fun h17 =>
(aC (Addr.add (Addr.mk b4 0 none) 1) (.int .i64 (0 : Int)) h17 fun h18 =>
(aC (Addr.mk b6 0 none) (.int .i64 (1 : Int)) h18 fun h19 =>
(walk_Walk_1_nA (some (Addr.mk b2 0 none)) (some (Addr.mk b4 0 none)) (some (Addr.mk b6 0 none)) (fun h20 =>
(aI .i64 (Addr.mk b2 0 none) h20 fun n21 =>
(aB (Addr.add (Addr.mk b2 0 none) 1) h20 fun b22 =>
(aB (Addr.add (Addr.mk b2 0 none) 2) h20 fun b23 =>
(aB (Addr.add (Addr.mk b2 0 none) 3) h20 fun b24 =>
(aB (Addr.add (Addr.mk b2 0 none) 4) h20 fun b25 =>
(aB (Addr.add (Addr.mk b2 0 none) 5) h20 fun b26 =>
(aB (Addr.add (Addr.mk b2 0 none) 6) h20 fun b27 =>
(aI .u64 (Addr.mk b4 0 none) h20 fun n28 =>
(aI .i64 (Addr.add (Addr.mk b4 0 none) 1) h20 fun n29 =>
(aI .i64 (Addr.mk b6 0 none) h20 fun n30 =>
(Q n21 b22 b23 b24 b25 b26 b27 n28 n29 n30 h20)))))))))))) h19)))))))))))
(ram_RAM_Has_A p0 p1 (fun b31 h32 =>
(bsel (!b31)
(aC (Addr.mk b2 0 none) (.int .i64 (0 : Int)) h32 fun h33 =>
(aC (Addr.add (Addr.mk b2 0 none) 1) (.bool false) h33 fun h34 =>
(aC (Addr.add (Addr.mk b2 0 none) 2) (.bool false) h34 fun h35 =>
(aC (Addr.add (Addr.mk b2 0 none) 3) (.bool false) h35 fun h36 =>
(aC (Addr.add (Addr.mk b2 0 none) 4) (.bool false) h36 fun h37 =>
(aC (Addr.add (Addr.mk b2 0 none) 5) (.bool false) h37 fun h38 =>
(aC (Addr.add (Addr.mk b2 0 none) 6) (.bool false) h38 fun h39 =>
(aC (Addr.mk b4 0 none) (.int .u64 (0 : Int)) h39 fun h40 =>
(aC (Addr.add (Addr.mk b4 0 none) 1) (.int .i64 (0 : Int)) h40 fun h41 =>
(aC (Addr.mk b6 0 none) (.int .i64 (2 : Int)) h41 fun h42 =>
(walk_Walk_1_nA (some (Addr.mk b2 0 none)) (some (Addr.mk b4 0 none)) (some (Addr.mk b6 0 none)) (fun h43 =>
(aI .i64 (Addr.mk b2 0 none) h43 fun n44 =>
(aB (Addr.add (Addr.mk b2 0 none) 1) h43 fun b45 =>
(aB (Addr.add (Addr.mk b2 0 none) 2) h43 fun b46 =>
(aB (Addr.add (Addr.mk b2 0 none) 3) h43 fun b47 =>
(aB (Addr.add (Addr.mk b2 0 none) 4) h43 fun b48 =>
(aB (Addr.add (Addr.mk b2 0 none) 5) h43 fun b49 =>
(aB (Addr.add (Addr.mk b2 0 none) 6) h43 fun b50 =>
(aI .u64 (Addr.mk b4 0 none) h43 fun n51 =>
(aI .i64 (Addr.add (Addr.mk b4 0 none) 1) h43 fun n52 =>
(aI .i64 (Addr.mk b6 0 none) h43 fun n53 =>
(Q n44 b45 b46 b47 b48 b49 b50 n51 n52 n53 h43)))))))))))) h42)))))))))))
(newA h32 (.cells #[(.pointer p0), (.int .u64 p2), (.bool p3), (.bool p4), (.bool p5), (.bool true), (.bool true), (.bool true)] 77) fun b54 h55 =>
(pte_Split_A p2 (fun n56 n57 n58 n59 n60 h61 =>
(newA h61 (.cells #[(.int .i64 (0 : Int)), (.int .i64 (0 : Int)), (.int .i64 (0 : Int)), (.int .i64 (0 : Int))] 78) fun b62 h63 =>
(aC (Addr.mk b62 0 none) (.int .i64 n56) h63 fun h64 =>
(aC (Addr.add (Addr.mk b62 0 none) 1) (.int .i64 n57) h64 fun h65 =>
(aC (Addr.add (Addr.mk b62 0 none) 2) (.int .i64 n58) h65 fun h66 =>
(aC (Addr.add (Addr.mk b62 0 none) 3) (.int .i64 n59) h66 fun h67 =>
(∃ R68 : Sl → AH → Prop, (∀ s209 : Sl, ∀ h210, R68 s209 h210 → 
(walk_mark_A p0 s209 p3 (fun  h211 =>
(aI .i64 (Addr.mk b2 0 none) h211 fun n212 =>
(aB (Addr.add (Addr.mk b2 0 none) 1) h211 fun b213 =>
(aB (Addr.add (Addr.mk b2 0 none) 2) h211 fun b214 =>
(aB (Addr.add (Addr.mk b2 0 none) 3) h211 fun b215 =>
(aB (Addr.add (Addr.mk b2 0 none) 4) h211 fun b216 =>
(aB (Addr.add (Addr.mk b2 0 none) 5) h211 fun b217 =>
(aB (Addr.add (Addr.mk b2 0 none) 6) h211 fun b218 =>
(aC (Addr.mk b2 0 none) (.int .i64 n212) h211 fun h219 =>
(aC (Addr.add (Addr.mk b2 0 none) 1) (.bool b213) h219 fun h220 =>
(aC (Addr.add (Addr.mk b2 0 none) 2) (.bool b214) h220 fun h221 =>
(aC (Addr.add (Addr.mk b2 0 none) 3) (.bool b215) h221 fun h222 =>
(aC (Addr.add (Addr.mk b2 0 none) 4) (.bool b216) h222 fun h223 =>
(aC (Addr.add (Addr.mk b2 0 none) 5) (.bool b217) h223 fun h224 =>
(aC (Addr.add (Addr.mk b2 0 none) 6) (.bool b218) h224 fun h225 =>
(aC (Addr.mk b4 0 none) (.int .u64 (0 : Int)) h225 fun h226 =>
(aC (Addr.add (Addr.mk b4 0 none) 1) (.int .i64 (0 : Int)) h226 fun h227 =>
(aC (Addr.mk b6 0 none) (.int .i64 (0 : Int)) h227 fun h228 =>
(walk_Walk_1_nA (some (Addr.mk b2 0 none)) (some (Addr.mk b4 0 none)) (some (Addr.mk b6 0 none)) (fun h229 =>
(aI .i64 (Addr.mk b2 0 none) h229 fun n230 =>
(aB (Addr.add (Addr.mk b2 0 none) 1) h229 fun b231 =>
(aB (Addr.add (Addr.mk b2 0 none) 2) h229 fun b232 =>
(aB (Addr.add (Addr.mk b2 0 none) 3) h229 fun b233 =>
(aB (Addr.add (Addr.mk b2 0 none) 4) h229 fun b234 =>
(aB (Addr.add (Addr.mk b2 0 none) 5) h229 fun b235 =>
(aB (Addr.add (Addr.mk b2 0 none) 6) h229 fun b236 =>
(aI .u64 (Addr.mk b4 0 none) h229 fun n237 =>
(aI .i64 (Addr.add (Addr.mk b4 0 none) 1) h229 fun n238 =>
(aI .i64 (Addr.mk b6 0 none) h229 fun n239 =>
(Q n230 b231 b232 b233 b234 b235 b236 n237 n238 n239 h229)))))))))))) h228))))))))))))))))))) h210)) ∧
(∃ I69 : Sl → Int → Int → Nat → AH → Prop, (∃ m70, I69 Sl.nil p1 (4 : Int) m70 h67) ∧ ∀ s73 : Sl, ∀ x74 : Int, ∀ x75 : Int, ∀ m70 h72, I69 s73 x74 x75 m70 h72 → 
(bsel (decide (x75 ≥ (1 : Int)))
(inB (IntKind.wrap .i64 ((4 : Int) - x75)) 4
(aI .i64 (Addr.add (Addr.mk b62 0 none) (Int.toNat (IntKind.wrap .i64 ((4 : Int) - x75)) * 1)) h72 fun n76 =>
(walk_walker_entry_A (some (Addr.mk b54 0 none)) x74 n76 x75 (fun n77 n78 h79 =>
(newA h79 (.cells #[(.int .u64 n78)] 32) fun b96 h97 =>
(apA 1 8 #[(.int .u64 (0 : Int))] 32 s73 (Sl.mk (some (Addr.mk b96 0 none)) 1 1) h97 fun s98 h99 =>
(pte_Unpack_A n77 (fun b100 b101 b102 b103 b104 b105 b106 b107 n108 h109 =>
(bsel (decide (x75 > (1 : Int)))
(bsel (x75 == (2 : Int))
(bsel (!b105)
(∃ m71, m71 < m70 ∧ I69 s98 n108 (IntKind.wrap .i64 (x75 - (1 : Int))) m71 h109)
(∃ R111 : AH → Prop, (∀ h134, R111 h134 → 
(aB (Addr.add (Addr.mk b54 0 none) 5) h134 fun b135 =>
(aB (Addr.add (Addr.add (Addr.mk b54 0 none) 5) 1) h134 fun b136 =>
(aB (Addr.add (Addr.add (Addr.mk b54 0 none) 5) 2) h134 fun b137 =>
(bsel b104
(aC (Addr.mk b2 0 none) (.int .i64 n108) h134 fun h138 =>
(aC (Addr.add (Addr.mk b2 0 none) 1) (.bool b135) h138 fun h139 =>
(aC (Addr.add (Addr.mk b2 0 none) 2) (.bool b136) h139 fun h140 =>
(aC (Addr.add (Addr.mk b2 0 none) 3) (.bool b137) h140 fun h141 =>
(aC (Addr.add (Addr.mk b2 0 none) 4) (.bool b106) h141 fun h142 =>
(aC (Addr.add (Addr.mk b2 0 none) 5) (.bool (x75 == (2 : Int))) h142 fun h143 =>
(aC (Addr.add (Addr.mk b2 0 none) 6) (.bool true) h143 fun h144 =>
(aB (Addr.add (Addr.mk b2 0 none) 5) h144 fun b145 =>
(bsel b145
(aI .i64 (Addr.mk b2 0 none) h144 fun n146 =>
(aI .i64 (Addr.add (Addr.mk b62 0 none) 3) h144 fun n147 =>
(aC (Addr.mk b2 0 none) (.int .i64 (IntKind.wrap .i64 (n146 + n147))) h144 fun h148 =>
(R68 s98 h148))))
(R68 s98 h144))))))))))
(aC (Addr.mk b2 0 none) (.int .i64 n108) h134 fun h149 =>
(aC (Addr.add (Addr.mk b2 0 none) 1) (.bool b135) h149 fun h150 =>
(aC (Addr.add (Addr.mk b2 0 none) 2) (.bool b136) h150 fun h151 =>
(aC (Addr.add (Addr.mk b2 0 none) 3) (.bool b137) h151 fun h152 =>
(aC (Addr.add (Addr.mk b2 0 none) 4) (.bool b106) h152 fun h153 =>
(aC (Addr.add (Addr.mk b2 0 none) 5) (.bool (x75 == (2 : Int))) h153 fun h154 =>
(aC (Addr.add (Addr.mk b2 0 none) 6) (.bool p3) h154 fun h155 =>
(aB (Addr.add (Addr.mk b2 0 none) 5) h155 fun b156 =>
(bsel b156
(aI .i64 (Addr.mk b2 0 none) h155 fun n157 =>
(aI .i64 (Addr.add (Addr.mk b62 0 none) 3) h155 fun n158 =>
(aC (Addr.mk b2 0 none) (.int .i64 (IntKind.wrap .i64 (n157 + n158))) h155 fun h159 =>
(R68 s98 h159))))
(R68 s98 h155))))))))))))))) ∧
(aB (Addr.add (Addr.mk b54 0 none) 5) h109 fun b112 =>
(aB (Addr.add (Addr.add (Addr.mk b54 0 none) 5) 1) h109 fun b113 =>
(aB (Addr.add (Addr.add (Addr.mk b54 0 none) 5) 2) h109 fun b114 =>
(walk_May_A b112 b113 b114 p3 p4 p5 (fun b115 h116 =>
(bsel (!b115)
(walk_walker_fault_A (some (Addr.mk b54 0 none)) (1 : Int) (fun  h117 =>
(R111 h117)) (fun v118 h119 => (∃ y121 : Int, ∃ y122 : Int, ∃ y123 : Int, (v118 : Value) = .iface 71 (.agg #[(.int .u64 y121), (.int .i64 y122), (.int .i64 y123)]) ∧ walk_Walk_1_pA (some (Addr.mk b2 0 none)) (some (Addr.mk b4 0 none)) (some (Addr.mk b6 0 none)) y121 y122 y123 (fun h120 =>
(aI .i64 (Addr.mk b2 0 none) h120 fun n124 =>
(aB (Addr.add (Addr.mk b2 0 none) 1) h120 fun b125 =>
(aB (Addr.add (Addr.mk b2 0 none) 2) h120 fun b126 =>
(aB (Addr.add (Addr.mk b2 0 none) 3) h120 fun b127 =>
(aB (Addr.add (Addr.mk b2 0 none) 4) h120 fun b128 =>
(aB (Addr.add (Addr.mk b2 0 none) 5) h120 fun b129 =>
(aB (Addr.add (Addr.mk b2 0 none) 6) h120 fun b130 =>
(aI .u64 (Addr.mk b4 0 none) h120 fun n131 =>
(aI .i64 (Addr.add (Addr.mk b4 0 none) 1) h120 fun n132 =>
(aI .i64 (Addr.mk b6 0 none) h120 fun n133 =>
(Q n124 b125 b126 b127 b128 b129 b130 n131 n132 n133 h120)))))))))))) h119)) h116)
(R111 h116))) h109))))))
(∃ m71, m71 < m70 ∧ I69 s98 n108 (IntKind.wrap .i64 (x75 - (1 : Int))) m71 h109))
(∃ R160 : AH → Prop, (∀ h183, R160 h183 → 
(aB (Addr.add (Addr.mk b54 0 none) 5) h183 fun b184 =>
(aB (Addr.add (Addr.add (Addr.mk b54 0 none) 5) 1) h183 fun b185 =>
(aB (Addr.add (Addr.add (Addr.mk b54 0 none) 5) 2) h183 fun b186 =>
(bsel b104
(aC (Addr.mk b2 0 none) (.int .i64 n108) h183 fun h187 =>
(aC (Addr.add (Addr.mk b2 0 none) 1) (.bool b184) h187 fun h188 =>
(aC (Addr.add (Addr.mk b2 0 none) 2) (.bool b185) h188 fun h189 =>
(aC (Addr.add (Addr.mk b2 0 none) 3) (.bool b186) h189 fun h190 =>
(aC (Addr.add (Addr.mk b2 0 none) 4) (.bool b106) h190 fun h191 =>
(aC (Addr.add (Addr.mk b2 0 none) 5) (.bool (x75 == (2 : Int))) h191 fun h192 =>
(aC (Addr.add (Addr.mk b2 0 none) 6) (.bool true) h192 fun h193 =>
(aB (Addr.add (Addr.mk b2 0 none) 5) h193 fun b194 =>
(bsel b194
(aI .i64 (Addr.mk b2 0 none) h193 fun n195 =>
(aI .i64 (Addr.add (Addr.mk b62 0 none) 3) h193 fun n196 =>
(aC (Addr.mk b2 0 none) (.int .i64 (IntKind.wrap .i64 (n195 + n196))) h193 fun h197 =>
(R68 s98 h197))))
(R68 s98 h193))))))))))
(aC (Addr.mk b2 0 none) (.int .i64 n108) h183 fun h198 =>
(aC (Addr.add (Addr.mk b2 0 none) 1) (.bool b184) h198 fun h199 =>
(aC (Addr.add (Addr.mk b2 0 none) 2) (.bool b185) h199 fun h200 =>
(aC (Addr.add (Addr.mk b2 0 none) 3) (.bool b186) h200 fun h201 =>
(aC (Addr.add (Addr.mk b2 0 none) 4) (.bool b106) h201 fun h202 =>
(aC (Addr.add (Addr.mk b2 0 none) 5) (.bool (x75 == (2 : Int))) h202 fun h203 =>
(aC (Addr.add (Addr.mk b2 0 none) 6) (.bool p3) h203 fun h204 =>
(aB (Addr.add (Addr.mk b2 0 none) 5) h204 fun b205 =>
(bsel b205
(aI .i64 (Addr.mk b2 0 none) h204 fun n206 =>
(aI .i64 (Addr.add (Addr.mk b62 0 none) 3) h204 fun n207 =>
(aC (Addr.mk b2 0 none) (.int .i64 (IntKind.wrap .i64 (n206 + n207))) h204 fun h208 =>
(R68 s98 h208))))
(R68 s98 h204))))))))))))))) ∧
(aB (Addr.add (Addr.mk b54 0 none) 5) h109 fun b161 =>
(aB (Addr.add (Addr.add (Addr.mk b54 0 none) 5) 1) h109 fun b162 =>
(aB (Addr.add (Addr.add (Addr.mk b54 0 none) 5) 2) h109 fun b163 =>
(walk_May_A b161 b162 b163 p3 p4 p5 (fun b164 h165 =>
(bsel (!b164)
(walk_walker_fault_A (some (Addr.mk b54 0 none)) (1 : Int) (fun  h166 =>
(R160 h166)) (fun v167 h168 => (∃ y170 : Int, ∃ y171 : Int, ∃ y172 : Int, (v167 : Value) = .iface 71 (.agg #[(.int .u64 y170), (.int .i64 y171), (.int .i64 y172)]) ∧ walk_Walk_1_pA (some (Addr.mk b2 0 none)) (some (Addr.mk b4 0 none)) (some (Addr.mk b6 0 none)) y170 y171 y172 (fun h169 =>
(aI .i64 (Addr.mk b2 0 none) h169 fun n173 =>
(aB (Addr.add (Addr.mk b2 0 none) 1) h169 fun b174 =>
(aB (Addr.add (Addr.mk b2 0 none) 2) h169 fun b175 =>
(aB (Addr.add (Addr.mk b2 0 none) 3) h169 fun b176 =>
(aB (Addr.add (Addr.mk b2 0 none) 4) h169 fun b177 =>
(aB (Addr.add (Addr.mk b2 0 none) 5) h169 fun b178 =>
(aB (Addr.add (Addr.mk b2 0 none) 6) h169 fun b179 =>
(aI .u64 (Addr.mk b4 0 none) h169 fun n180 =>
(aI .i64 (Addr.add (Addr.mk b4 0 none) 1) h169 fun n181 =>
(aI .i64 (Addr.mk b6 0 none) h169 fun n182 =>
(Q n173 b174 b175 b176 b177 b178 b179 n180 n181 n182 h169)))))))))))) h168)) h165)
(R160 h165))) h109))))))) h99)))) (fun v80 h81 => (∃ y83 : Int, ∃ y84 : Int, ∃ y85 : Int, (v80 : Value) = .iface 71 (.agg #[(.int .u64 y83), (.int .i64 y84), (.int .i64 y85)]) ∧ walk_Walk_1_pA (some (Addr.mk b2 0 none)) (some (Addr.mk b4 0 none)) (some (Addr.mk b6 0 none)) y83 y84 y85 (fun h82 =>
(aI .i64 (Addr.mk b2 0 none) h82 fun n86 =>
(aB (Addr.add (Addr.mk b2 0 none) 1) h82 fun b87 =>
(aB (Addr.add (Addr.mk b2 0 none) 2) h82 fun b88 =>
(aB (Addr.add (Addr.mk b2 0 none) 3) h82 fun b89 =>
(aB (Addr.add (Addr.mk b2 0 none) 4) h82 fun b90 =>
(aB (Addr.add (Addr.mk b2 0 none) 5) h82 fun b91 =>
(aB (Addr.add (Addr.mk b2 0 none) 6) h82 fun b92 =>
(aI .u64 (Addr.mk b4 0 none) h82 fun n93 =>
(aI .i64 (Addr.add (Addr.mk b4 0 none) 1) h82 fun n94 =>
(aI .i64 (Addr.mk b6 0 none) h82 fun n95 =>
(Q n86 b87 b88 b89 b90 b91 b92 n93 n94 n95 h82)))))))))))) h81)) h72)))
(R68 s73 h72)))))))))) h55)))) h9))) h7))))
set_option maxHeartbeats 4000000 in
theorem walk_Walk_pro {Z : Nat → Prop} {A : AH} {L : Bx} {h : Hp} {p0 : Option Addr} {p1 : Int} {p2 : Int} {p3 : Bool} {p4 : Bool} {p5 : Bool} {Q : Int → Bool → Bool → Bool → Bool → Bool → Bool → Int → Int → Int → Hp → Prop} {Q2 : Int → Bool → Bool → Bool → Bool → Bool → Bool → Int → Int → Int → AH → Prop} (hq : ∀ r0 r1 r2 r3 r4 r5 r6 r7 r8 r9 A h, Sim Z A L h → Q2 r0 r1 r2 r3 r4 r5 r6 r7 r8 r9 A → Q r0 r1 r2 r3 r4 r5 r6 r7 r8 r9 h) (s : Sim Z A L h) (hh : walk_Walk_A p0 p1 p2 p3 p4 p5 Q2 A) : walk_Walk p0 p1 p2 p3 p4 p5 Q h := by
  unfold walk_Walk_A at hh
  unfold walk_Walk walk_Walk_G
  exact (box_new s fun b1 _ s =>
(newA_pro s (by first | exact rfl | exact True.intro) hh fun b2 _ _ s hh =>
(newA_pro s (by first | exact rfl | exact True.intro) hh fun b4 _ _ s hh =>
(newA_pro s (by first | exact rfl | exact True.intro) hh fun b6 _ _ s hh =>
(pte_Canonical_pro (fun b8 _ _ s hh =>
(bsel_pro hh (fun hh =>
(aC_pro s hh fun _ _ s hh =>
(aC_pro s hh fun _ _ s hh =>
(aC_pro s hh fun _ _ s hh =>
(aC_pro s hh fun _ _ s hh =>
(aC_pro s hh fun _ _ s hh =>
(aC_pro s hh fun _ _ s hh =>
(aC_pro s hh fun _ _ s hh =>
(aC_pro s hh fun _ _ s hh =>
(aC_pro s hh fun _ _ s hh =>
(aC_pro s hh fun _ _ s hh =>
(walk_Walk_1_nPro (fun _ _ s hh =>
(aI_pro s hh fun n21 hh =>
(aB_pro s hh fun b22 hh =>
(aB_pro s hh fun b23 hh =>
(aB_pro s hh fun b24 hh =>
(aB_pro s hh fun b25 hh =>
(aB_pro s hh fun b26 hh =>
(aB_pro s hh fun b27 hh =>
(aI_pro s hh fun n28 hh =>
(aI_pro s hh fun n29 hh =>
(aI_pro s hh fun n30 hh =>
(hq _ _ _ _ _ _ _ _ _ _ _ _ (s.keep (.cons _ (List.Sublist.refl _))) hh)))))))))))) s hh)))))))))))) (fun hh =>
(ram_RAM_Has_pro (fun b31 _ _ s hh =>
(bsel_pro hh (fun hh =>
(aC_pro s hh fun _ _ s hh =>
(aC_pro s hh fun _ _ s hh =>
(aC_pro s hh fun _ _ s hh =>
(aC_pro s hh fun _ _ s hh =>
(aC_pro s hh fun _ _ s hh =>
(aC_pro s hh fun _ _ s hh =>
(aC_pro s hh fun _ _ s hh =>
(aC_pro s hh fun _ _ s hh =>
(aC_pro s hh fun _ _ s hh =>
(aC_pro s hh fun _ _ s hh =>
(walk_Walk_1_nPro (fun _ _ s hh =>
(aI_pro s hh fun n44 hh =>
(aB_pro s hh fun b45 hh =>
(aB_pro s hh fun b46 hh =>
(aB_pro s hh fun b47 hh =>
(aB_pro s hh fun b48 hh =>
(aB_pro s hh fun b49 hh =>
(aB_pro s hh fun b50 hh =>
(aI_pro s hh fun n51 hh =>
(aI_pro s hh fun n52 hh =>
(aI_pro s hh fun n53 hh =>
(hq _ _ _ _ _ _ _ _ _ _ _ _ (s.keep (.cons _ (List.Sublist.refl _))) hh)))))))))))) s hh)))))))))))) (fun hh =>
(box_B (i := 0) s rfl rfl
(box_B (i := 0) s rfl rfl
(box_B (i := 0) s rfl rfl
(newA_pro s (by first | exact rfl | exact True.intro) hh fun b54 _ _ s hh =>
(pte_Split_pro (fun n56 n57 n58 n59 n60 _ _ s hh =>
(newA_pro s (by first | exact rfl | exact True.intro) hh fun b62 _ _ s hh =>
(aC_pro s hh fun _ _ s hh =>
(aC_pro s hh fun _ _ s hh =>
(aC_pro s hh fun _ _ s hh =>
(aC_pro s hh fun _ _ s hh =>
(match hh with | ⟨R68, q1, hh⟩ => ⟨fun s209 h => ∃ A, Sim Z A ((b1, [(.bool p3), (.bool p4), (.bool p5)], 34) :: L) h ∧ R68 s209 A, fun s209 h ⟨h210, s, q2⟩ => (have hh := q1 s209 h210 q2;
(box_B (i := 0) s rfl rfl
(walk_mark_pro (fun  _ _ s hh =>
(aI_pro s hh fun n212 hh =>
(aB_pro s hh fun b213 hh =>
(aB_pro s hh fun b214 hh =>
(aB_pro s hh fun b215 hh =>
(aB_pro s hh fun b216 hh =>
(aB_pro s hh fun b217 hh =>
(aB_pro s hh fun b218 hh =>
(aC_pro s hh fun _ _ s hh =>
(aC_pro s hh fun _ _ s hh =>
(aC_pro s hh fun _ _ s hh =>
(aC_pro s hh fun _ _ s hh =>
(aC_pro s hh fun _ _ s hh =>
(aC_pro s hh fun _ _ s hh =>
(aC_pro s hh fun _ _ s hh =>
(aC_pro s hh fun _ _ s hh =>
(aC_pro s hh fun _ _ s hh =>
(aC_pro s hh fun _ _ s hh =>
(walk_Walk_1_nPro (fun _ _ s hh =>
(aI_pro s hh fun n230 hh =>
(aB_pro s hh fun b231 hh =>
(aB_pro s hh fun b232 hh =>
(aB_pro s hh fun b233 hh =>
(aB_pro s hh fun b234 hh =>
(aB_pro s hh fun b235 hh =>
(aB_pro s hh fun b236 hh =>
(aI_pro s hh fun n237 hh =>
(aI_pro s hh fun n238 hh =>
(aI_pro s hh fun n239 hh =>
(hq _ _ _ _ _ _ _ _ _ _ _ _ (s.keep (.cons _ (List.Sublist.refl _))) hh)))))))))))) s hh))))))))))))))))))) s hh))),
(match hh with | ⟨I69, ⟨q0, q1⟩, q2⟩ => ⟨fun s73 x74 x75 m h => ∃ A, Sim Z A ((b1, [(.bool p3), (.bool p4), (.bool p5)], 34) :: L) h ∧ I69 s73 x74 x75 m A, ⟨q0, _, s, q1⟩, fun s73 x74 x75 m70 h ⟨h72, s, q3⟩ => (have hh := q2 s73 x74 x75 m70 h72 q3;
(bsel_pro hh (fun hh =>
(inB_pro hh fun hh =>
(aI_pro s hh fun n76 hh =>
(walk_walker_entry_pro (fun n77 n78 _ _ s hh =>
(newA_pro s (by first | exact rfl | exact True.intro) hh fun b96 _ _ s hh =>
(apA_pro s hh fun s98 _ _ s hh =>
(pte_Unpack_pro (fun b100 b101 b102 b103 b104 b105 b106 b107 n108 _ _ s hh =>
(box_new s fun b110 _ s =>
(box_set (i := 0) s rfl rfl rfl fun _ s =>
(box_set (i := 0) s rfl rfl rfl fun _ s =>
(box_set (i := 0) s rfl rfl rfl fun _ s =>
(box_set (i := 0) s rfl rfl rfl fun _ s =>
(box_set (i := 0) s rfl rfl rfl fun _ s =>
(box_set (i := 0) s rfl rfl rfl fun _ s =>
(box_set (i := 0) s rfl rfl rfl fun _ s =>
(box_set (i := 0) s rfl rfl rfl fun _ s =>
(box_set (i := 0) s rfl rfl rfl fun _ s =>
(have s : Sim _ _ ((b110, [(.bool b100), (.bool b101), (.bool b102), (.bool b103), (.bool b104), (.bool b105), (.bool b106), (.bool b107), (.int .i64 n108)], 85) :: (b1, [(.bool p3), (.bool p4), (.bool p5)], 34) :: L) _ := s;
(box_I (i := 0) s rfl rfl
(bsel_pro hh (fun hh =>
(bsel_pro hh (fun hh =>
(box_B (i := 0) s rfl rfl
(bsel_pro hh (fun hh =>
(match hh with | ⟨m71, q1, q2⟩ => ⟨m71, q1, _, (s.keep (.cons _ (.cons_cons _ (List.Sublist.refl _)))), q2⟩)) (fun hh =>
(match hh with | ⟨R111, q1, hh⟩ => ⟨fun  h => ∃ A, Sim Z A ((b110, [(.bool b100), (.bool b101), (.bool b102), (.bool b103), (.bool b104), (.bool b105), (.bool b106), (.bool b107), (.int .i64 n108)], 85) :: (b1, [(.bool p3), (.bool p4), (.bool p5)], 34) :: L) h ∧ R111 A, fun  h ⟨h134, s, q2⟩ => (have hh := q1 h134 q2;
(box_I (i := 0) s rfl rfl
(aB_pro s hh fun b135 hh =>
(aB_pro s hh fun b136 hh =>
(aB_pro s hh fun b137 hh =>
(box_B (i := 0) s rfl rfl
(box_B (i := 0) s rfl rfl
(bsel_pro hh (fun hh =>
(aC_pro s hh fun _ _ s hh =>
(aC_pro s hh fun _ _ s hh =>
(aC_pro s hh fun _ _ s hh =>
(aC_pro s hh fun _ _ s hh =>
(aC_pro s hh fun _ _ s hh =>
(aC_pro s hh fun _ _ s hh =>
(aC_pro s hh fun _ _ s hh =>
(aB_pro s hh fun b145 hh =>
(bsel_pro hh (fun hh =>
(aI_pro s hh fun n146 hh =>
(aI_pro s hh fun n147 hh =>
(aC_pro s hh fun _ _ s hh =>
⟨_, (s.keep (.cons _ (.cons_cons _ (List.Sublist.refl _)))), hh⟩)))) (fun hh =>
⟨_, (s.keep (.cons _ (.cons_cons _ (List.Sublist.refl _)))), hh⟩))))))))))) (fun hh =>
(box_B (i := 1) s rfl rfl
(aC_pro s hh fun _ _ s hh =>
(aC_pro s hh fun _ _ s hh =>
(aC_pro s hh fun _ _ s hh =>
(aC_pro s hh fun _ _ s hh =>
(aC_pro s hh fun _ _ s hh =>
(aC_pro s hh fun _ _ s hh =>
(aC_pro s hh fun _ _ s hh =>
(aB_pro s hh fun b156 hh =>
(bsel_pro hh (fun hh =>
(aI_pro s hh fun n157 hh =>
(aI_pro s hh fun n158 hh =>
(aC_pro s hh fun _ _ s hh =>
⟨_, (s.keep (.cons _ (.cons_cons _ (List.Sublist.refl _)))), hh⟩)))) (fun hh =>
⟨_, (s.keep (.cons _ (.cons_cons _ (List.Sublist.refl _)))), hh⟩)))))))))))))))))))),
(aB_pro s hh fun b112 hh =>
(aB_pro s hh fun b113 hh =>
(aB_pro s hh fun b114 hh =>
(box_B (i := 1) s rfl rfl
(box_B (i := 1) s rfl rfl
(box_B (i := 1) s rfl rfl
(walk_May_pro (fun b115 _ _ s hh =>
(bsel_pro hh (fun hh =>
(walk_walker_fault_pro (fun  _ _ s hh =>
⟨_, s, hh⟩) (fun v118 _ _ s hh =>
(match hh with | ⟨y121, y122, y123, q1, hh⟩ => ⟨y121, y122, y123, q1, (walk_Walk_1_pPro (fun _ _ s hh =>
(aI_pro s hh fun n124 hh =>
(aB_pro s hh fun b125 hh =>
(aB_pro s hh fun b126 hh =>
(aB_pro s hh fun b127 hh =>
(aB_pro s hh fun b128 hh =>
(aB_pro s hh fun b129 hh =>
(aB_pro s hh fun b130 hh =>
(aI_pro s hh fun n131 hh =>
(aI_pro s hh fun n132 hh =>
(aI_pro s hh fun n133 hh =>
(hq _ _ _ _ _ _ _ _ _ _ _ _ (s.keep (.cons _ (.cons _ (List.Sublist.refl _)))) hh)))))))))))) s hh)⟩)) s hh)) (fun hh =>
⟨_, s, hh⟩))) s hh)))))))⟩))))) (fun hh =>
(match hh with | ⟨m71, q1, q2⟩ => ⟨m71, q1, _, (s.keep (.cons _ (.cons_cons _ (List.Sublist.refl _)))), q2⟩)))) (fun hh =>
(match hh with | ⟨R160, q1, hh⟩ => ⟨fun  h => ∃ A, Sim Z A ((b110, [(.bool b100), (.bool b101), (.bool b102), (.bool b103), (.bool b104), (.bool b105), (.bool b106), (.bool b107), (.int .i64 n108)], 85) :: (b1, [(.bool p3), (.bool p4), (.bool p5)], 34) :: L) h ∧ R160 A, fun  h ⟨h183, s, q2⟩ => (have hh := q1 h183 q2;
(box_I (i := 0) s rfl rfl
(aB_pro s hh fun b184 hh =>
(aB_pro s hh fun b185 hh =>
(aB_pro s hh fun b186 hh =>
(box_B (i := 0) s rfl rfl
(box_B (i := 0) s rfl rfl
(bsel_pro hh (fun hh =>
(aC_pro s hh fun _ _ s hh =>
(aC_pro s hh fun _ _ s hh =>
(aC_pro s hh fun _ _ s hh =>
(aC_pro s hh fun _ _ s hh =>
(aC_pro s hh fun _ _ s hh =>
(aC_pro s hh fun _ _ s hh =>
(aC_pro s hh fun _ _ s hh =>
(aB_pro s hh fun b194 hh =>
(bsel_pro hh (fun hh =>
(aI_pro s hh fun n195 hh =>
(aI_pro s hh fun n196 hh =>
(aC_pro s hh fun _ _ s hh =>
⟨_, (s.keep (.cons _ (.cons_cons _ (List.Sublist.refl _)))), hh⟩)))) (fun hh =>
⟨_, (s.keep (.cons _ (.cons_cons _ (List.Sublist.refl _)))), hh⟩))))))))))) (fun hh =>
(box_B (i := 1) s rfl rfl
(aC_pro s hh fun _ _ s hh =>
(aC_pro s hh fun _ _ s hh =>
(aC_pro s hh fun _ _ s hh =>
(aC_pro s hh fun _ _ s hh =>
(aC_pro s hh fun _ _ s hh =>
(aC_pro s hh fun _ _ s hh =>
(aC_pro s hh fun _ _ s hh =>
(aB_pro s hh fun b205 hh =>
(bsel_pro hh (fun hh =>
(aI_pro s hh fun n206 hh =>
(aI_pro s hh fun n207 hh =>
(aC_pro s hh fun _ _ s hh =>
⟨_, (s.keep (.cons _ (.cons_cons _ (List.Sublist.refl _)))), hh⟩)))) (fun hh =>
⟨_, (s.keep (.cons _ (.cons_cons _ (List.Sublist.refl _)))), hh⟩)))))))))))))))))))),
(aB_pro s hh fun b161 hh =>
(aB_pro s hh fun b162 hh =>
(aB_pro s hh fun b163 hh =>
(box_B (i := 1) s rfl rfl
(box_B (i := 1) s rfl rfl
(box_B (i := 1) s rfl rfl
(walk_May_pro (fun b164 _ _ s hh =>
(bsel_pro hh (fun hh =>
(walk_walker_fault_pro (fun  _ _ s hh =>
⟨_, s, hh⟩) (fun v167 _ _ s hh =>
(match hh with | ⟨y170, y171, y172, q1, hh⟩ => ⟨y170, y171, y172, q1, (walk_Walk_1_pPro (fun _ _ s hh =>
(aI_pro s hh fun n173 hh =>
(aB_pro s hh fun b174 hh =>
(aB_pro s hh fun b175 hh =>
(aB_pro s hh fun b176 hh =>
(aB_pro s hh fun b177 hh =>
(aB_pro s hh fun b178 hh =>
(aB_pro s hh fun b179 hh =>
(aI_pro s hh fun n180 hh =>
(aI_pro s hh fun n181 hh =>
(aI_pro s hh fun n182 hh =>
(hq _ _ _ _ _ _ _ _ _ _ _ _ (s.keep (.cons _ (.cons _ (List.Sublist.refl _)))) hh)))))))))))) s hh)⟩)) s hh)) (fun hh =>
⟨_, s, hh⟩))) s hh)))))))⟩)))))))))))))))) s hh)))) (fun v80 _ _ s hh =>
(match hh with | ⟨y83, y84, y85, q1, hh⟩ => ⟨y83, y84, y85, q1, (walk_Walk_1_pPro (fun _ _ s hh =>
(aI_pro s hh fun n86 hh =>
(aB_pro s hh fun b87 hh =>
(aB_pro s hh fun b88 hh =>
(aB_pro s hh fun b89 hh =>
(aB_pro s hh fun b90 hh =>
(aB_pro s hh fun b91 hh =>
(aB_pro s hh fun b92 hh =>
(aI_pro s hh fun n93 hh =>
(aI_pro s hh fun n94 hh =>
(aI_pro s hh fun n95 hh =>
(hq _ _ _ _ _ _ _ _ _ _ _ _ (s.keep (.cons _ (List.Sublist.refl _))) hh)))))))))))) s hh)⟩)) s hh)))) (fun hh =>
⟨_, s, hh⟩)))⟩)⟩))))))) s hh)))))))) s hh)))) s hh)))))

/- demesne/demesnelaw04.awake -/
def demesnelaw04_awake_A (Q : Bool → AH → Prop) (h : AH) : Prop :=
(newA h (.cells #[(.int .i64 (0 : Int)), (.int .i64 (0 : Int)), (.int .u64 (4103 : Int)), (.int .i64 (1 : Int)), (.int .i64 (0 : Int)), (.int .u64 (8199 : Int)), (.int .i64 (2 : Int)), (.int .i64 (0 : Int)), (.int .u64 (12295 : Int)), (.int .i64 (3 : Int)), (.int .i64 (1 : Int)), (.int .u64 (16389 : Int))] 60) fun b1 h2 =>
(demesnelaw04_Lay_A (Sl.mk (some (Addr.mk b1 0 none)) 4 4) (fun pt3 n4 s5 mp6 h7 =>
(bsel pt3.isNone
(Q false h7)
(walk_Walk_A pt3 (0 : Int) (4096 : Int) false true false (fun n9 b10 b11 b12 b13 b14 b15 n16 n17 n18 h19 =>
(walk_Walk_A pt3 (0 : Int) (4096 : Int) true true false (fun n22 b23 b24 b25 b26 b27 b28 n29 n30 n31 h32 =>
(bsel (n18 == (0 : Int))
(bsel (n9 == (4 : Int))
(bsel (n31 == (9 : Int))
(Q ((n29 == (4096 : Int)) && ((n30 == (7 : Int)) && true)) h32)
(Q false h32))
(Q false h32))
(Q false h32))) h19)) h7))) h2))
set_option maxHeartbeats 4000000 in
theorem demesnelaw04_awake_pro {Z : Nat → Prop} {A : AH} {L : Bx} {h : Hp} {Q : Bool → Hp → Prop} {Q2 : Bool → AH → Prop} (hq : ∀ r0 A h, Sim Z A L h → Q2 r0 A → Q r0 h) (s : Sim Z A L h) (hh : demesnelaw04_awake_A  Q2 A) : demesnelaw04_awake  Q h := by
  unfold demesnelaw04_awake_A at hh
  unfold demesnelaw04_awake demesnelaw04_awake_G
  exact (newA_pro s (by first | exact rfl | exact True.intro) hh fun b1 _ _ s hh =>
(demesnelaw04_Lay_pro (fun pt3 n4 s5 mp6 _ _ s hh =>
(box_new s fun b8 _ s =>
(box_set (i := 0) s rfl rfl rfl fun _ s =>
(box_set (i := 0) s rfl rfl rfl fun _ s =>
(box_set (i := 0) s rfl rfl rfl fun _ s =>
(have s : Sim _ _ ((b8, [(.int .i64 n4), (.slice s5.a s5.len s5.cap), (.map mp6)], 28) :: L) _ := s;
(bsel_pro hh (fun hh =>
(hq _ _ _ (s.keep (.cons _ (List.Sublist.refl _))) hh)) (fun hh =>
(walk_Walk_pro (fun n9 b10 b11 b12 b13 b14 b15 n16 n17 n18 _ _ s hh =>
(box_new s fun b20 _ s =>
(box_new s fun b21 _ s =>
(box_set (i := 1) s rfl rfl rfl fun _ s =>
(box_set (i := 1) s rfl rfl rfl fun _ s =>
(box_set (i := 1) s rfl rfl rfl fun _ s =>
(box_set (i := 1) s rfl rfl rfl fun _ s =>
(box_set (i := 1) s rfl rfl rfl fun _ s =>
(box_set (i := 1) s rfl rfl rfl fun _ s =>
(box_set (i := 1) s rfl rfl rfl fun _ s =>
(have s : Sim _ _ ((b21, [(.int .u64 (0 : Int)), (.int .i64 (0 : Int))], 42) :: (b20, [(.int .i64 n9), (.bool b10), (.bool b11), (.bool b12), (.bool b13), (.bool b14), (.bool b15)], 40) :: (b8, [(.int .i64 n4), (.slice s5.a s5.len s5.cap), (.map mp6)], 28) :: L) _ := s;
(box_set (i := 0) s rfl rfl rfl fun _ s =>
(box_set (i := 0) s rfl rfl rfl fun _ s =>
(have s : Sim _ _ ((b21, [(.int .u64 n16), (.int .i64 n17)], 42) :: (b20, [(.int .i64 n9), (.bool b10), (.bool b11), (.bool b12), (.bool b13), (.bool b14), (.bool b15)], 40) :: (b8, [(.int .i64 n4), (.slice s5.a s5.len s5.cap), (.map mp6)], 28) :: L) _ := s;
(walk_Walk_pro (fun n22 b23 b24 b25 b26 b27 b28 n29 n30 n31 _ _ s hh =>
(box_new s fun b33 _ s =>
(box_new s fun b34 _ s =>
(box_set (i := 1) s rfl rfl rfl fun _ s =>
(box_set (i := 1) s rfl rfl rfl fun _ s =>
(box_set (i := 1) s rfl rfl rfl fun _ s =>
(box_set (i := 1) s rfl rfl rfl fun _ s =>
(box_set (i := 1) s rfl rfl rfl fun _ s =>
(box_set (i := 1) s rfl rfl rfl fun _ s =>
(box_set (i := 1) s rfl rfl rfl fun _ s =>
(have s : Sim _ _ ((b34, [(.int .u64 (0 : Int)), (.int .i64 (0 : Int))], 42) :: (b33, [(.int .i64 n22), (.bool b23), (.bool b24), (.bool b25), (.bool b26), (.bool b27), (.bool b28)], 40) :: (b21, [(.int .u64 n16), (.int .i64 n17)], 42) :: (b20, [(.int .i64 n9), (.bool b10), (.bool b11), (.bool b12), (.bool b13), (.bool b14), (.bool b15)], 40) :: (b8, [(.int .i64 n4), (.slice s5.a s5.len s5.cap), (.map mp6)], 28) :: L) _ := s;
(box_set (i := 0) s rfl rfl rfl fun _ s =>
(box_set (i := 0) s rfl rfl rfl fun _ s =>
(have s : Sim _ _ ((b34, [(.int .u64 n29), (.int .i64 n30)], 42) :: (b33, [(.int .i64 n22), (.bool b23), (.bool b24), (.bool b25), (.bool b26), (.bool b27), (.bool b28)], 40) :: (b21, [(.int .u64 n16), (.int .i64 n17)], 42) :: (b20, [(.int .i64 n9), (.bool b10), (.bool b11), (.bool b12), (.bool b13), (.bool b14), (.bool b15)], 40) :: (b8, [(.int .i64 n4), (.slice s5.a s5.len s5.cap), (.map mp6)], 28) :: L) _ := s;
(bsel_pro hh (fun hh =>
(box_I (i := 3) s rfl rfl
(bsel_pro hh (fun hh =>
(bsel_pro hh (fun hh =>
(box_I (i := 0) s rfl rfl
(box_I (i := 0) s rfl rfl
(hq _ _ _ (s.keep (.cons _ (.cons _ (.cons _ (.cons _ (.cons _ (List.Sublist.refl _))))))) hh)))) (fun hh =>
(hq _ _ _ (s.keep (.cons _ (.cons _ (.cons _ (.cons _ (.cons _ (List.Sublist.refl _))))))) hh)))) (fun hh =>
(hq _ _ _ (s.keep (.cons _ (.cons _ (.cons _ (.cons _ (.cons _ (List.Sublist.refl _))))))) hh))))) (fun hh =>
(hq _ _ _ (s.keep (.cons _ (.cons _ (.cons _ (.cons _ (.cons _ (List.Sublist.refl _))))))) hh))))))))))))))))) s hh))))))))))))))) s hh))))))))) s hh))

/- demesne/demesneref04.May -/
def demesneref04_May_A (p0 : Bool) (p1 : Bool) (p2 : Bool) (p3 : Bool) (p4 : Bool) (p5 : Bool) (Q : Bool → AH → Prop) (h : AH) : Prop :=
(bsel p3
(bsel (!p0)
(Q false h)
(bsel p4
(bsel (!p1)
(Q false h)
(bsel (!p5)
(Q true h)
(Q p2 h)))
(bsel (!p5)
(Q true h)
(Q p2 h))))
(bsel p4
(bsel (!p1)
(Q false h)
(bsel (!p5)
(Q true h)
(Q p2 h)))
(bsel (!p5)
(Q true h)
(Q p2 h))))
set_option maxHeartbeats 4000000 in
theorem demesneref04_May_pro {Z : Nat → Prop} {A : AH} {L : Bx} {h : Hp} {p0 : Bool} {p1 : Bool} {p2 : Bool} {p3 : Bool} {p4 : Bool} {p5 : Bool} {Q : Bool → Hp → Prop} {Q2 : Bool → AH → Prop} (hq : ∀ r0 A h, Sim Z A L h → Q2 r0 A → Q r0 h) (s : Sim Z A L h) (hh : demesneref04_May_A p0 p1 p2 p3 p4 p5 Q2 A) : demesneref04_May p0 p1 p2 p3 p4 p5 Q h := by
  unfold demesneref04_May_A at hh
  unfold demesneref04_May
  exact (box_new s fun b1 _ s =>
(box_B (i := 0) s rfl rfl
(bsel_pro hh (fun hh =>
(bsel_pro hh (fun hh =>
(hq _ _ _ (s.keep (.cons _ (List.Sublist.refl _))) hh)) (fun hh =>
(box_B (i := 0) s rfl rfl
(bsel_pro hh (fun hh =>
(bsel_pro hh (fun hh =>
(hq _ _ _ (s.keep (.cons _ (List.Sublist.refl _))) hh)) (fun hh =>
(box_B (i := 0) s rfl rfl
(bsel_pro hh (fun hh =>
(hq _ _ _ (s.keep (.cons _ (List.Sublist.refl _))) hh)) (fun hh =>
(hq _ _ _ (s.keep (.cons _ (List.Sublist.refl _))) hh))))))) (fun hh =>
(box_B (i := 0) s rfl rfl
(bsel_pro hh (fun hh =>
(hq _ _ _ (s.keep (.cons _ (List.Sublist.refl _))) hh)) (fun hh =>
(hq _ _ _ (s.keep (.cons _ (List.Sublist.refl _))) hh)))))))))) (fun hh =>
(box_B (i := 0) s rfl rfl
(bsel_pro hh (fun hh =>
(bsel_pro hh (fun hh =>
(hq _ _ _ (s.keep (.cons _ (List.Sublist.refl _))) hh)) (fun hh =>
(box_B (i := 0) s rfl rfl
(bsel_pro hh (fun hh =>
(hq _ _ _ (s.keep (.cons _ (List.Sublist.refl _))) hh)) (fun hh =>
(hq _ _ _ (s.keep (.cons _ (List.Sublist.refl _))) hh))))))) (fun hh =>
(box_B (i := 0) s rfl rfl
(bsel_pro hh (fun hh =>
(hq _ _ _ (s.keep (.cons _ (List.Sublist.refl _))) hh)) (fun hh =>
(hq _ _ _ (s.keep (.cons _ (List.Sublist.refl _))) hh)))))))))))

/- demesne/demesneref03.Bit -/
def demesneref03_Bit_A (p0 : Int) (p1 : Int) (Q : Bool → AH → Prop) (h : AH) : Prop :=
(bsel (decide (p1 < 0)) False
(Q ((Int.tmod (Int.fdiv p0 (2 ^ (min (Int.toNat p1) 64))) (2 : Int)) == (1 : Int)) h))
set_option maxHeartbeats 4000000 in
theorem demesneref03_Bit_pro {Z : Nat → Prop} {A : AH} {L : Bx} {h : Hp} {p0 : Int} {p1 : Int} {Q : Bool → Hp → Prop} {Q2 : Bool → AH → Prop} (hq : ∀ r0 A h, Sim Z A L h → Q2 r0 A → Q r0 h) (s : Sim Z A L h) (hh : demesneref03_Bit_A p0 p1 Q2 A) : demesneref03_Bit p0 p1 Q h := by
  unfold demesneref03_Bit_A at hh
  unfold demesneref03_Bit
  exact (bsel_pro hh (fun hh => hh) (fun hh =>
(hq _ _ _ s hh)))

/- demesne/demesneref03.Canonical -/
def demesneref03_Canonical_A (p0 : Int) (Q : Bool → AH → Prop) (h : AH) : Prop :=
(∃ I1 : Int → Nat → AH → Prop, (∃ m2, I1 (47 : Int) m2 h) ∧ ∀ x5 : Int, ∀ m2 h4, I1 x5 m2 h4 → 
(bsel (decide (x5 < (64 : Int)))
(demesneref03_Bit_A p0 x5 (fun b6 h7 =>
(demesneref03_Bit_A p0 (47 : Int) (fun b8 h9 =>
(bsel (!(b6 == b8))
(Q false h9)
(∃ m3, m3 < m2 ∧ I1 (IntKind.wrap .i64 (x5 + (1 : Int))) m3 h9))) h7)) h4)
(Q true h4)))
set_option maxHeartbeats 4000000 in
theorem demesneref03_Canonical_pro {Z : Nat → Prop} {A : AH} {L : Bx} {h : Hp} {p0 : Int} {Q : Bool → Hp → Prop} {Q2 : Bool → AH → Prop} (hq : ∀ r0 A h, Sim Z A L h → Q2 r0 A → Q r0 h) (s : Sim Z A L h) (hh : demesneref03_Canonical_A p0 Q2 A) : demesneref03_Canonical p0 Q h := by
  unfold demesneref03_Canonical_A at hh
  unfold demesneref03_Canonical demesneref03_Canonical_G
  exact (match hh with | ⟨I1, ⟨q0, q1⟩, q2⟩ => ⟨fun x5 m h => ∃ A, Sim Z A (L) h ∧ I1 x5 m A, ⟨q0, _, s, q1⟩, fun x5 m2 h ⟨h4, s, q3⟩ => (have hh := q2 x5 m2 h4 q3;
(bsel_pro hh (fun hh =>
(demesneref03_Bit_pro (fun b6 _ _ s hh =>
(demesneref03_Bit_pro (fun b8 _ _ s hh =>
(bsel_pro hh (fun hh =>
(hq _ _ _ s hh)) (fun hh =>
(match hh with | ⟨m3, q1, q2⟩ => ⟨m3, q1, _, s, q2⟩)))) s hh)) s hh)) (fun hh =>
(hq _ _ _ s hh))))⟩)

/- demesne/demesneref01.Has -/
def demesneref01_Has_A (p0 : Int) (p1 : Sl) (_p2 : Option Nat) (p3 : Int) (Q : Bool → AH → Prop) (h : AH) : Prop :=
(∃ R2 : Bool → AH → Prop, (∀ b3 : Bool, ∀ h4, R2 b3 h4 → 
(∃ I5 : Bool → Int → Nat → AH → Prop, (∃ m6, I5 b3 (0 : Int) m6 h4) ∧ ∀ b9 : Bool, ∀ x10 : Int, ∀ m6 h8, I5 b9 x10 m6 h8 → 
(bsel (decide (x10 < (Int.ofNat p1.len)))
(∃ R11 : Bool → AH → Prop, (∀ b16 : Bool, ∀ h17, R11 b16 h17 → 
(∃ m7, m7 < m6 ∧ I5 b16 (IntKind.wrap .i64 (x10 + (1 : Int))) m7 h17)) ∧
(onSome p1.a fun a12 =>
(inB x10 p1.len
(aI .i64 (Addr.add a12 (Int.toNat x10 * 2)) h8 fun n13 =>
(aI .i64 (Addr.add (Addr.add a12 (Int.toNat x10 * 2)) 1) h8 fun n14 =>
(bsel b9
(bsel (decide (n13 ≤ p3))
(R11 (!(decide (p3 < n14))) h8)
(R11 true h8))
(R11 false h8)))))))
(Q b9 h8)))) ∧
(bsel (decide (p3 ≥ (0 : Int)))
(R2 (decide (p3 < p0)) h)
(R2 false h)))
set_option maxHeartbeats 4000000 in
theorem demesneref01_Has_pro {Z : Nat → Prop} {A : AH} {L : Bx} {h : Hp} {p0 : Int} {p1 : Sl} {p2 : Option Nat} {p3 : Int} {Q : Bool → Hp → Prop} {Q2 : Bool → AH → Prop} (hq : ∀ r0 A h, Sim Z A L h → Q2 r0 A → Q r0 h) (s : Sim Z A L h) (hh : demesneref01_Has_A p0 p1 p2 p3 Q2 A) : demesneref01_Has p0 p1 p2 p3 Q h := by
  unfold demesneref01_Has_A at hh
  unfold demesneref01_Has
  exact (box_new s fun b1 _ s =>
(match hh with | ⟨R2, q1, hh⟩ => ⟨fun b3 h => ∃ A, Sim Z A ((b1, [(.int .i64 p0), (.slice p1.a p1.len p1.cap), (.map p2)], 28) :: L) h ∧ R2 b3 A, fun b3 h ⟨h4, s, q2⟩ => (have hh := q1 b3 h4 q2;
(box_S (i := 0) s rfl rfl
(match hh with | ⟨I5, ⟨q0, q1⟩, q2⟩ => ⟨fun b9 x10 m h => ∃ A, Sim Z A (L) h ∧ I5 b9 x10 m A, ⟨q0, _, (s.keep (.cons _ (List.Sublist.refl _))), q1⟩, fun b9 x10 m6 h ⟨h8, s, q3⟩ => (have hh := q2 b9 x10 m6 h8 q3;
(bsel_pro hh (fun hh =>
(match hh with | ⟨R11, q1, hh⟩ => ⟨fun b16 h => ∃ A, Sim Z A (L) h ∧ R11 b16 A, fun b16 h ⟨h17, s, q2⟩ => (have hh := q1 b16 h17 q2;
(match hh with | ⟨m7, q1, q2⟩ => ⟨m7, q1, _, s, q2⟩)),
(onSome_pro hh fun a12 hh =>
(inB_pro hh fun hh =>
(aI_pro s hh fun n13 hh =>
(aI_pro s hh fun n14 hh =>
(box_new s fun b15 _ s =>
(box_set (i := 0) s rfl rfl rfl fun _ s =>
(box_set (i := 0) s rfl rfl rfl fun _ s =>
(have s : Sim _ _ ((b15, [(.int .i64 n13), (.int .i64 n14)], 65) :: L) _ := s;
(bsel_pro hh (fun hh =>
(box_I (i := 0) s rfl rfl
(bsel_pro hh (fun hh =>
(box_I (i := 0) s rfl rfl
⟨_, (s.keep (.cons _ (List.Sublist.refl _))), hh⟩)) (fun hh =>
⟨_, (s.keep (.cons _ (List.Sublist.refl _))), hh⟩)))) (fun hh =>
⟨_, (s.keep (.cons _ (List.Sublist.refl _))), hh⟩))))))))))⟩)) (fun hh =>
(hq _ _ _ s hh))))⟩))),
(bsel_pro hh (fun hh =>
(box_I (i := 0) s rfl rfl
⟨_, s, hh⟩)) (fun hh =>
⟨_, s, hh⟩))⟩))

/- demesne/demesneref03.Part -/
def demesneref03_Part_A (p0 : Int) (p1 : Int) (p2 : Int) (Q : Int → AH → Prop) (h : AH) : Prop :=
(∃ I1 : Int → Int → Nat → AH → Prop, (∃ m2, I1 (0 : Int) (IntKind.wrap .i64 (p2 - (1 : Int))) m2 h) ∧ ∀ x5 : Int, ∀ x6 : Int, ∀ m2 h4, I1 x5 x6 m2 h4 → 
(bsel (decide (x6 ≥ (0 : Int)))
(∃ R7 : Int → AH → Prop, (∀ x10 : Int, ∀ h11, R7 x10 h11 → 
(∃ m3, m3 < m2 ∧ I1 x10 (IntKind.wrap .i64 (x6 - (1 : Int))) m3 h11)) ∧
(demesneref03_Bit_A p0 (IntKind.wrap .i64 (p1 + x6)) (fun b8 h9 =>
(bsel b8
(R7 (IntKind.wrap .i64 ((IntKind.wrap .i64 ((2 : Int) * x5)) + (1 : Int))) h9)
(R7 (IntKind.wrap .i64 ((2 : Int) * x5)) h9))) h4))
(Q x5 h4)))
set_option maxHeartbeats 4000000 in
theorem demesneref03_Part_pro {Z : Nat → Prop} {A : AH} {L : Bx} {h : Hp} {p0 : Int} {p1 : Int} {p2 : Int} {Q : Int → Hp → Prop} {Q2 : Int → AH → Prop} (hq : ∀ r0 A h, Sim Z A L h → Q2 r0 A → Q r0 h) (s : Sim Z A L h) (hh : demesneref03_Part_A p0 p1 p2 Q2 A) : demesneref03_Part p0 p1 p2 Q h := by
  unfold demesneref03_Part_A at hh
  unfold demesneref03_Part demesneref03_Part_G
  exact (match hh with | ⟨I1, ⟨q0, q1⟩, q2⟩ => ⟨fun x5 x6 m h => ∃ A, Sim Z A (L) h ∧ I1 x5 x6 m A, ⟨q0, _, s, q1⟩, fun x5 x6 m2 h ⟨h4, s, q3⟩ => (have hh := q2 x5 x6 m2 h4 q3;
(bsel_pro hh (fun hh =>
(match hh with | ⟨R7, q1, hh⟩ => ⟨fun x10 h => ∃ A, Sim Z A (L) h ∧ R7 x10 A, fun x10 h ⟨h11, s, q2⟩ => (have hh := q1 x10 h11 q2;
(match hh with | ⟨m3, q1, q2⟩ => ⟨m3, q1, _, s, q2⟩)),
(demesneref03_Bit_pro (fun b8 _ _ s hh =>
(bsel_pro hh (fun hh =>
⟨_, s, hh⟩) (fun hh =>
⟨_, s, hh⟩))) s hh)⟩)) (fun hh =>
(hq _ _ _ s hh))))⟩)

/- demesne/demesneref01.Load -/
def demesneref01_Load_A (_p0 : Int) (_p1 : Sl) (p2 : Option Nat) (p3 : Int) (p4 : Int) (Q : Int → AH → Prop) (h : AH) : Prop :=
(∃ I2 : Int → Int → Nat → AH → Prop, (∃ m3, I2 (0 : Int) (0 : Int) m3 h) ∧ ∀ x6 : Int, ∀ x7 : Int, ∀ m3 h5, I2 x6 x7 m3 h5 → 
(bsel (decide (x7 < p4))
(aLk h5 p2 .u64 (IntKind.wrap .u64 (p3 + (IntKind.wrap .u64 x7))) fun o8 =>
(∃ n9 : Int, ((o8.getD (.int .u8 (0 : Int))) : Value) = (.int .u8 n9) ∧
(bsel (decide ((IntKind.wrap .i64 ((8 : Int) * x7)) < 0)) False
(∃ m4, m4 < m3 ∧ I2 (IntKind.wrap .u64 (x6 + (IntKind.wrap .u64 ((IntKind.wrap .u64 n9) * 2 ^ (min (Int.toNat (IntKind.wrap .i64 ((8 : Int) * x7))) 64))))) (IntKind.wrap .i64 (x7 + (1 : Int))) m4 h5))))
(Q x6 h5)))
set_option maxHeartbeats 4000000 in
theorem demesneref01_Load_pro {Z : Nat → Prop} {A : AH} {L : Bx} {h : Hp} {p0 : Int} {p1 : Sl} {p2 : Option Nat} {p3 : Int} {p4 : Int} {Q : Int → Hp → Prop} {Q2 : Int → AH → Prop} (hq : ∀ r0 A h, Sim Z A L h → Q2 r0 A → Q r0 h) (s : Sim Z A L h) (hh : demesneref01_Load_A p0 p1 p2 p3 p4 Q2 A) : demesneref01_Load p0 p1 p2 p3 p4 Q h := by
  unfold demesneref01_Load_A at hh
  unfold demesneref01_Load
  exact (box_new s fun b1 _ s =>
(match hh with | ⟨I2, ⟨q0, q1⟩, q2⟩ => ⟨fun x6 x7 m h => ∃ A, Sim Z A ((b1, [(.int .i64 p0), (.slice p1.a p1.len p1.cap), (.map p2)], 28) :: L) h ∧ I2 x6 x7 m A, ⟨q0, _, s, q1⟩, fun x6 x7 m3 h ⟨h5, s, q3⟩ => (have hh := q2 x6 x7 m3 h5 q3;
(bsel_pro hh (fun hh =>
(box_M (i := 0) s rfl rfl
(aLk_pro s hh fun o8 hh =>
(match hh with | ⟨n9, e10, hh⟩ => ⟨n9, e10,
(bsel_pro hh (fun hh => hh) (fun hh =>
(match hh with | ⟨m4, q1, q2⟩ => ⟨m4, q1, _, s, q2⟩)))⟩)))) (fun hh =>
(hq _ _ _ (s.keep (.cons _ (List.Sublist.refl _))) hh))))⟩))

/- demesne/demesneref03.Unpack -/
def demesneref03_Unpack_A (p0 : Int) (Q : Bool → Bool → Bool → Bool → Bool → Bool → Bool → Bool → Int → AH → Prop) (h : AH) : Prop :=
(demesneref03_Bit_A p0 (0 : Int) (fun b2 h3 =>
(demesneref03_Bit_A p0 (1 : Int) (fun b4 h5 =>
(demesneref03_Bit_A p0 (2 : Int) (fun b6 h7 =>
(demesneref03_Bit_A p0 (5 : Int) (fun b8 h9 =>
(demesneref03_Bit_A p0 (6 : Int) (fun b10 h11 =>
(demesneref03_Bit_A p0 (7 : Int) (fun b12 h13 =>
(demesneref03_Bit_A p0 (8 : Int) (fun b14 h15 =>
(demesneref03_Bit_A p0 (63 : Int) (fun b16 h17 =>
(Q b2 b4 b6 b8 b10 b12 b14 b16 ((IntKind.wrap .i64 (Int.tmod (IntKind.wrap .u64 (Int.tdiv p0 (4096 : Int))) (1048576 : Int))) : Int) h17)) h15)) h13)) h11)) h9)) h7)) h5)) h3)) h)
set_option maxHeartbeats 4000000 in
theorem demesneref03_Unpack_pro {Z : Nat → Prop} {A : AH} {L : Bx} {h : Hp} {p0 : Int} {Q : Bool → Bool → Bool → Bool → Bool → Bool → Bool → Bool → Int → Hp → Prop} {Q2 : Bool → Bool → Bool → Bool → Bool → Bool → Bool → Bool → Int → AH → Prop} (hq : ∀ r0 r1 r2 r3 r4 r5 r6 r7 r8 A h, Sim Z A L h → Q2 r0 r1 r2 r3 r4 r5 r6 r7 r8 A → Q r0 r1 r2 r3 r4 r5 r6 r7 r8 h) (s : Sim Z A L h) (hh : demesneref03_Unpack_A p0 Q2 A) : demesneref03_Unpack p0 Q h := by
  unfold demesneref03_Unpack_A at hh
  unfold demesneref03_Unpack demesneref03_Unpack_G
  exact (box_new s fun b1 _ s =>
(demesneref03_Bit_pro (fun b2 _ _ s hh =>
(demesneref03_Bit_pro (fun b4 _ _ s hh =>
(demesneref03_Bit_pro (fun b6 _ _ s hh =>
(demesneref03_Bit_pro (fun b8 _ _ s hh =>
(demesneref03_Bit_pro (fun b10 _ _ s hh =>
(demesneref03_Bit_pro (fun b12 _ _ s hh =>
(demesneref03_Bit_pro (fun b14 _ _ s hh =>
(demesneref03_Bit_pro (fun b16 _ _ s hh =>
(box_set (i := 0) s rfl rfl rfl fun _ s =>
(box_set (i := 0) s rfl rfl rfl fun _ s =>
(box_set (i := 0) s rfl rfl rfl fun _ s =>
(box_set (i := 0) s rfl rfl rfl fun _ s =>
(box_set (i := 0) s rfl rfl rfl fun _ s =>
(box_set (i := 0) s rfl rfl rfl fun _ s =>
(box_set (i := 0) s rfl rfl rfl fun _ s =>
(box_set (i := 0) s rfl rfl rfl fun _ s =>
(box_set (i := 0) s rfl rfl rfl fun _ s =>
(have s : Sim _ _ ((b1, [(.bool b2), (.bool b4), (.bool b6), (.bool b8), (.bool b10), (.bool b12), (.bool b14), (.bool b16), (.int .i64 (IntKind.wrap .i64 (Int.tmod (IntKind.wrap .u64 (Int.tdiv p0 (4096 : Int))) (1048576 : Int))))], 92) :: L) _ := s;
(box_B (i := 0) s rfl rfl
(box_B (i := 0) s rfl rfl
(box_B (i := 0) s rfl rfl
(box_B (i := 0) s rfl rfl
(box_B (i := 0) s rfl rfl
(box_B (i := 0) s rfl rfl
(box_B (i := 0) s rfl rfl
(box_B (i := 0) s rfl rfl
(box_I (i := 0) s rfl rfl
(hq _ _ _ _ _ _ _ _ _ _ _ (s.keep (.cons _ (List.Sublist.refl _))) hh))))))))))))))))))))) s hh)) s hh)) s hh)) s hh)) s hh)) s hh)) s hh)) s hh))

/- demesne/demesneref04.Code -/
def demesneref04_Code_A (p0 : Bool) (p1 : Bool) (p2 : Bool) (Q : Int → AH → Prop) (h : AH) : Prop :=
(∃ R2 : Int → AH → Prop, (∀ x3 : Int, ∀ h4, R2 x3 h4 → 
(∃ R5 : Int → AH → Prop, (∀ x6 : Int, ∀ h7, R5 x6 h7 → 
(∃ R8 : Int → AH → Prop, (∀ x9 : Int, ∀ h10, R8 x9 h10 → 
(Q x9 h10)) ∧
(bsel p2
(R8 (IntKind.wrap .i64 (x6 + (16 : Int))) h7)
(R8 x6 h7)))) ∧
(bsel p1
(R5 (IntKind.wrap .i64 (x3 + (4 : Int))) h4)
(R5 x3 h4)))) ∧
(bsel p0
(R2 (2 : Int) h)
(R2 (0 : Int) h)))
set_option maxHeartbeats 4000000 in
theorem demesneref04_Code_pro {Z : Nat → Prop} {A : AH} {L : Bx} {h : Hp} {p0 : Bool} {p1 : Bool} {p2 : Bool} {Q : Int → Hp → Prop} {Q2 : Int → AH → Prop} (hq : ∀ r0 A h, Sim Z A L h → Q2 r0 A → Q r0 h) (s : Sim Z A L h) (hh : demesneref04_Code_A p0 p1 p2 Q2 A) : demesneref04_Code p0 p1 p2 Q h := by
  unfold demesneref04_Code_A at hh
  unfold demesneref04_Code
  exact (box_new s fun b1 _ s =>
(match hh with | ⟨R2, q1, hh⟩ => ⟨fun x3 h => ∃ A, Sim Z A ((b1, [(.bool p0), (.bool p1), (.bool p2)], 34) :: L) h ∧ R2 x3 A, fun x3 h ⟨h4, s, q2⟩ => (have hh := q1 x3 h4 q2;
(match hh with | ⟨R5, q1, hh⟩ => ⟨fun x6 h => ∃ A, Sim Z A ((b1, [(.bool p0), (.bool p1), (.bool p2)], 34) :: L) h ∧ R5 x6 A, fun x6 h ⟨h7, s, q2⟩ => (have hh := q1 x6 h7 q2;
(match hh with | ⟨R8, q1, hh⟩ => ⟨fun x9 h => ∃ A, Sim Z A (L) h ∧ R8 x9 A, fun x9 h ⟨h10, s, q2⟩ => (have hh := q1 x9 h10 q2;
(hq _ _ _ s hh)),
(box_B (i := 0) s rfl rfl
(bsel_pro hh (fun hh =>
⟨_, (s.keep (.cons _ (List.Sublist.refl _))), hh⟩) (fun hh =>
⟨_, (s.keep (.cons _ (List.Sublist.refl _))), hh⟩)))⟩)),
(box_B (i := 0) s rfl rfl
(bsel_pro hh (fun hh =>
⟨_, s, hh⟩) (fun hh =>
⟨_, s, hh⟩)))⟩)),
(box_B (i := 0) s rfl rfl
(bsel_pro hh (fun hh =>
⟨_, s, hh⟩) (fun hh =>
⟨_, s, hh⟩)))⟩))

/- demesne/demesneref03.any -/
def demesneref03_any_A (p0 : Int) (p1 : Int) (p2 : Int) (Q : Bool → AH → Prop) (h : AH) : Prop :=
(∃ I1 : Int → Nat → AH → Prop, (∃ m2, I1 p1 m2 h) ∧ ∀ x5 : Int, ∀ m2 h4, I1 x5 m2 h4 → 
(bsel (decide (x5 ≤ p2))
(demesneref03_Bit_A p0 x5 (fun b6 h7 =>
(bsel b6
(Q true h7)
(∃ m3, m3 < m2 ∧ I1 (IntKind.wrap .i64 (x5 + (1 : Int))) m3 h7))) h4)
(Q false h4)))
set_option maxHeartbeats 4000000 in
theorem demesneref03_any_pro {Z : Nat → Prop} {A : AH} {L : Bx} {h : Hp} {p0 : Int} {p1 : Int} {p2 : Int} {Q : Bool → Hp → Prop} {Q2 : Bool → AH → Prop} (hq : ∀ r0 A h, Sim Z A L h → Q2 r0 A → Q r0 h) (s : Sim Z A L h) (hh : demesneref03_any_A p0 p1 p2 Q2 A) : demesneref03_any p0 p1 p2 Q h := by
  unfold demesneref03_any_A at hh
  unfold demesneref03_any demesneref03_any_G
  exact (match hh with | ⟨I1, ⟨q0, q1⟩, q2⟩ => ⟨fun x5 m h => ∃ A, Sim Z A (L) h ∧ I1 x5 m A, ⟨q0, _, s, q1⟩, fun x5 m2 h ⟨h4, s, q3⟩ => (have hh := q2 x5 m2 h4 q3;
(bsel_pro hh (fun hh =>
(demesneref03_Bit_pro (fun b6 _ _ s hh =>
(bsel_pro hh (fun hh =>
(hq _ _ _ s hh)) (fun hh =>
(match hh with | ⟨m3, q1, q2⟩ => ⟨m3, q1, _, s, q2⟩)))) s hh)) (fun hh =>
(hq _ _ _ s hh))))⟩)

/- demesne/demesneref03.Reserved -/
def demesneref03_Reserved_A (p0 : Int) (p1 : Int) (Q : Bool → AH → Prop) (h : AH) : Prop :=
(demesneref03_Bit_A p0 (0 : Int) (fun b1 h2 =>
(bsel (!b1)
(Q false h2)
(demesneref03_any_A p0 (32 : Int) (51 : Int) (fun b3 h4 =>
(bsel b3
(Q true h4)
(bsel (decide (p1 ≥ (3 : Int)))
(demesneref03_Bit_A p0 (7 : Int) (fun b5 h6 =>
(Q b5 h6)) h4)
(bsel (p1 == (2 : Int))
(demesneref03_Bit_A p0 (7 : Int) (fun b7 h8 =>
(bsel b7
(demesneref03_any_A p0 (12 : Int) (20 : Int) (fun b9 h10 =>
(Q b9 h10)) h8)
(Q false h8))) h4)
(Q false h4))))) h2))) h)
set_option maxHeartbeats 4000000 in
theorem demesneref03_Reserved_pro {Z : Nat → Prop} {A : AH} {L : Bx} {h : Hp} {p0 : Int} {p1 : Int} {Q : Bool → Hp → Prop} {Q2 : Bool → AH → Prop} (hq : ∀ r0 A h, Sim Z A L h → Q2 r0 A → Q r0 h) (s : Sim Z A L h) (hh : demesneref03_Reserved_A p0 p1 Q2 A) : demesneref03_Reserved p0 p1 Q h := by
  unfold demesneref03_Reserved_A at hh
  unfold demesneref03_Reserved demesneref03_Reserved_G
  exact (demesneref03_Bit_pro (fun b1 _ _ s hh =>
(bsel_pro hh (fun hh =>
(hq _ _ _ s hh)) (fun hh =>
(demesneref03_any_pro (fun b3 _ _ s hh =>
(bsel_pro hh (fun hh =>
(hq _ _ _ s hh)) (fun hh =>
(bsel_pro hh (fun hh =>
(demesneref03_Bit_pro (fun b5 _ _ s hh =>
(hq _ _ _ s hh)) s hh)) (fun hh =>
(bsel_pro hh (fun hh =>
(demesneref03_Bit_pro (fun b7 _ _ s hh =>
(bsel_pro hh (fun hh =>
(demesneref03_any_pro (fun b9 _ _ s hh =>
(hq _ _ _ s hh)) s hh)) (fun hh =>
(hq _ _ _ s hh)))) s hh)) (fun hh =>
(hq _ _ _ s hh)))))))) s hh)))) s hh)

/- demesne/demesneref04.Walk -/
def demesneref04_Walk_A (p0 : Int) (p1 : Sl) (p2 : Option Nat) (p3 : Int) (p4 : Int) (p5 : Bool) (p6 : Bool) (p7 : Bool) (Q : Int → Bool → Bool → Bool → Bool → Bool → Bool → Int → Int → AH → Prop) (h : AH) : Prop :=
(demesneref03_Canonical_A p4 (fun b4 h5 =>
(bsel (!b4)
(Q (0 : Int) (false : Bool) (false : Bool) (false : Bool) (false : Bool) (false : Bool) (false : Bool) (0 : Int) (1 : Int) h5)
(demesneref01_Has_A p0 p1 p2 p3 (fun b6 h7 =>
(bsel (!b6)
(Q (0 : Int) (false : Bool) (false : Bool) (false : Bool) (false : Bool) (false : Bool) (false : Bool) (0 : Int) (2 : Int) h7)
(newA h7 (.cells #[] 32) fun b9 h10 =>
(∃ R11 : Sl → Int → Bool → Bool → Bool → Bool → Bool → Bool → AH → Prop, (∀ s68 : Sl, ∀ c69 : Int, ∀ c70 : Bool, ∀ c71 : Bool, ∀ c72 : Bool, ∀ c73 : Bool, ∀ c74 : Bool, ∀ c75 : Bool, ∀ h76, R11 s68 c69 c70 c71 c72 c73 c74 c75 h76 → 
(demesneref04_May_A c70 c71 c72 p5 p6 p7 (fun b77 h78 =>
(bsel (!b77)
(demesneref04_Code_A p5 p6 p7 (fun n79 h80 =>
(Q (0 : Int) (false : Bool) (false : Bool) (false : Bool) (false : Bool) (false : Bool) (false : Bool) (IntKind.wrap .i64 ((1 : Int) + n79)) (9 : Int) h80)) h78)
(∃ I81 : Int → Nat → AH → Prop, (∃ m82, I81 (0 : Int) m82 h78) ∧ ∀ x85 : Int, ∀ m82 h84, I81 x85 m82 h84 → 
(bsel (decide (x85 < (Int.ofNat s68.len)))
(onSome s68.a fun a86 =>
(inB x85 s68.len
(aI .u64 (Addr.add a86 (Int.toNat x85 * 1)) h84 fun n87 =>
(demesneref01_Load_A p0 p1 p2 n87 (8 : Int) (fun n88 h89 =>
(∃ R90 : Int → AH → Prop, (∀ x93 : Int, ∀ h94, R90 x93 h94 → 
(∃ R95 : Int → AH → Prop, (∀ x98 : Int, ∀ h99, R95 x98 h99 → 
(demesneref01_Store_A p0 p1 p2 n87 (8 : Int) x98 (fun  h100 =>
(∃ m83, m83 < m82 ∧ I81 (IntKind.wrap .i64 (x85 + (1 : Int))) m83 h100)) h99)) ∧
(bsel p5
(bsel (x85 == (IntKind.wrap .i64 ((Int.ofNat s68.len) - (1 : Int))))
(demesneref03_Bit_A x93 (6 : Int) (fun b96 h97 =>
(bsel (!b96)
(R95 (IntKind.wrap .u64 (x93 + (64 : Int))) h97)
(R95 x93 h97))) h94)
(R95 x93 h94))
(R95 x93 h94)))) ∧
(demesneref03_Bit_A n88 (5 : Int) (fun b91 h92 =>
(bsel (!b91)
(R90 (IntKind.wrap .u64 (n88 + (32 : Int))) h92)
(R90 n88 h92))) h89))) h84))))
(Q c69 c70 c71 c72 c73 c74 c75 (0 : Int) (0 : Int) h84))))) h76)) ∧
(∃ I12 : Sl → Int → Int → Bool → Bool → Bool → Nat → AH → Prop, (∃ m13, I12 (Sl.mk (some (Addr.mk b9 0 none)) 0 0) p3 (4 : Int) true true true m13 h10) ∧ ∀ s16 : Sl, ∀ x17 : Int, ∀ x18 : Int, ∀ c19 : Bool, ∀ c20 : Bool, ∀ c21 : Bool, ∀ m13 h15, I12 s16 x17 x18 c19 c20 c21 m13 h15 → 
(bsel (decide (x18 > (0 : Int)))
(demesneref01_Has_A p0 p1 p2 x17 (fun b22 h23 =>
(bsel (!b22)
(Q (0 : Int) (false : Bool) (false : Bool) (false : Bool) (false : Bool) (false : Bool) (false : Bool) (0 : Int) (2 : Int) h23)
(demesneref03_Part_A p4 (IntKind.wrap .i64 ((3 : Int) + (IntKind.wrap .i64 ((9 : Int) * x18)))) (9 : Int) (fun n24 h25 =>
(demesneref01_Load_A p0 p1 p2 (IntKind.wrap .u64 ((IntKind.wrap .u64 ((IntKind.wrap .u64 x17) * (4096 : Int))) + (IntKind.wrap .u64 ((8 : Int) * (IntKind.wrap .u64 n24))))) (8 : Int) (fun n26 h27 =>
(demesneref03_Unpack_A n26 (fun b28 b29 b30 b31 b32 b33 b34 b35 n36 h37 =>
(bsel (!b28)
(demesneref04_Code_A p5 p6 p7 (fun n39 h40 =>
(Q (0 : Int) (false : Bool) (false : Bool) (false : Bool) (false : Bool) (false : Bool) (false : Bool) n39 (9 : Int) h40)) h37)
(demesneref03_Reserved_A n26 x18 (fun b41 h42 =>
(bsel b41
(demesneref04_Code_A p5 p6 p7 (fun n43 h44 =>
(Q (0 : Int) (false : Bool) (false : Bool) (false : Bool) (false : Bool) (false : Bool) (false : Bool) (IntKind.wrap .i64 ((9 : Int) + n43)) (9 : Int) h44)) h42)
(newA h42 (.cells #[(.int .u64 (IntKind.wrap .u64 ((IntKind.wrap .u64 ((IntKind.wrap .u64 x17) * (4096 : Int))) + (IntKind.wrap .u64 ((8 : Int) * (IntKind.wrap .u64 n24))))))] 32) fun b45 h46 =>
(apA 1 8 #[(.int .u64 (0 : Int))] 32 s16 (Sl.mk (some (Addr.mk b45 0 none)) 1 1) h46 fun s47 h48 =>
(∃ R49 : Bool → AH → Prop, (∀ c50 : Bool, ∀ h51, R49 c50 h51 → 
(∃ R52 : Bool → AH → Prop, (∀ c53 : Bool, ∀ h54, R52 c53 h54 → 
(∃ R55 : Bool → AH → Prop, (∀ c56 : Bool, ∀ h57, R55 c56 h57 → 
(∃ R58 : Bool → AH → Prop, (∀ b59 : Bool, ∀ h60, R58 b59 h60 → 
(bsel b59
(∃ R61 : Bool → AH → Prop, (∀ c62 : Bool, ∀ h63, R61 c62 h63 → 
(bsel ((x18 == (2 : Int)) : Bool)
(∃ S64 : AP, S64 h63 ∧
(S64 h63 ∧ (∀ h67 : AH, S64 h67 → (((.int .i64 n36) : Value) = (.int .i64 n36))) ∧
(demesneref03_Part_A p4 (12 : Int) (9 : Int) (fun n65 h66 =>
(S64 h66 ∧
(R11 s47 (IntKind.wrap .i64 (n36 + n65)) c50 c53 c56 b34 (x18 == (2 : Int)) c62 h66))) h63)))
(R11 s47 n36 c50 c53 c56 b34 (x18 == (2 : Int)) c62 h63))) ∧
(bsel b32
(R61 true h60)
(R61 p5 h60)))
(∃ m14, m14 < m13 ∧ I12 s47 n36 (IntKind.wrap .i64 (x18 - (1 : Int))) c50 c53 c56 m14 h60))) ∧
(bsel (x18 == (1 : Int))
(R58 true h57)
(bsel (x18 == (2 : Int))
(R58 b33 h57)
(R58 false h57))))) ∧
(bsel c21
(R55 (!b35) h54)
(R55 false h54)))) ∧
(bsel c20
(R52 b30 h51)
(R52 false h51)))) ∧
(bsel c19
(R49 b29 h48)
(R49 false h48))))))) h37))) h27)) h25)) h23))) h15)
(R11 s16 (0 : Int) c19 c20 c21 false false false h15))))))) h5))) h)
set_option maxHeartbeats 4000000 in
theorem demesneref04_Walk_pro {Z : Nat → Prop} {A : AH} {L : Bx} {h : Hp} {p0 : Int} {p1 : Sl} {p2 : Option Nat} {p3 : Int} {p4 : Int} {p5 : Bool} {p6 : Bool} {p7 : Bool} {Q : Int → Bool → Bool → Bool → Bool → Bool → Bool → Int → Int → Hp → Prop} {Q2 : Int → Bool → Bool → Bool → Bool → Bool → Bool → Int → Int → AH → Prop} (hq : ∀ r0 r1 r2 r3 r4 r5 r6 r7 r8 A h, Sim Z A L h → Q2 r0 r1 r2 r3 r4 r5 r6 r7 r8 A → Q r0 r1 r2 r3 r4 r5 r6 r7 r8 h) (s : Sim Z A L h) (hh : demesneref04_Walk_A p0 p1 p2 p3 p4 p5 p6 p7 Q2 A) : demesneref04_Walk p0 p1 p2 p3 p4 p5 p6 p7 Q h := by
  unfold demesneref04_Walk_A at hh
  unfold demesneref04_Walk demesneref04_Walk_G
  exact (box_new s fun b1 _ s =>
(box_new s fun b2 _ s =>
(box_new s fun b3 _ s =>
(demesneref03_Canonical_pro (fun b4 _ _ s hh =>
(bsel_pro hh (fun hh =>
(box_set (i := 0) s rfl rfl rfl fun _ s =>
(box_set (i := 0) s rfl rfl rfl fun _ s =>
(box_set (i := 0) s rfl rfl rfl fun _ s =>
(box_set (i := 0) s rfl rfl rfl fun _ s =>
(box_set (i := 0) s rfl rfl rfl fun _ s =>
(box_set (i := 0) s rfl rfl rfl fun _ s =>
(box_set (i := 0) s rfl rfl rfl fun _ s =>
(have s : Sim _ _ ((b3, [(.int .i64 (0 : Int)), (.bool false), (.bool false), (.bool false), (.bool false), (.bool false), (.bool false)], 47) :: (b2, [(.bool p5), (.bool p6), (.bool p7)], 34) :: (b1, [(.int .i64 p0), (.slice p1.a p1.len p1.cap), (.map p2)], 28) :: L) _ := s;
(box_I (i := 0) s rfl rfl
(box_B (i := 0) s rfl rfl
(box_B (i := 0) s rfl rfl
(box_B (i := 0) s rfl rfl
(box_B (i := 0) s rfl rfl
(box_B (i := 0) s rfl rfl
(box_B (i := 0) s rfl rfl
(hq _ _ _ _ _ _ _ _ _ _ _ (s.keep (.cons _ (.cons _ (.cons _ (List.Sublist.refl _))))) hh))))))))))))))))) (fun hh =>
(box_I (i := 2) s rfl rfl
(box_S (i := 2) s rfl rfl
(box_M (i := 2) s rfl rfl
(demesneref01_Has_pro (fun b6 _ _ s hh =>
(bsel_pro hh (fun hh =>
(box_set (i := 0) s rfl rfl rfl fun _ s =>
(box_set (i := 0) s rfl rfl rfl fun _ s =>
(box_set (i := 0) s rfl rfl rfl fun _ s =>
(box_set (i := 0) s rfl rfl rfl fun _ s =>
(box_set (i := 0) s rfl rfl rfl fun _ s =>
(box_set (i := 0) s rfl rfl rfl fun _ s =>
(box_set (i := 0) s rfl rfl rfl fun _ s =>
(have s : Sim _ _ ((b3, [(.int .i64 (0 : Int)), (.bool false), (.bool false), (.bool false), (.bool false), (.bool false), (.bool false)], 47) :: (b2, [(.bool p5), (.bool p6), (.bool p7)], 34) :: (b1, [(.int .i64 p0), (.slice p1.a p1.len p1.cap), (.map p2)], 28) :: L) _ := s;
(box_I (i := 0) s rfl rfl
(box_B (i := 0) s rfl rfl
(box_B (i := 0) s rfl rfl
(box_B (i := 0) s rfl rfl
(box_B (i := 0) s rfl rfl
(box_B (i := 0) s rfl rfl
(box_B (i := 0) s rfl rfl
(hq _ _ _ _ _ _ _ _ _ _ _ (s.keep (.cons _ (.cons _ (.cons _ (List.Sublist.refl _))))) hh))))))))))))))))) (fun hh =>
(box_new s fun b8 _ s =>
(box_set (i := 0) s rfl rfl rfl fun _ s =>
(box_set (i := 0) s rfl rfl rfl fun _ s =>
(box_set (i := 0) s rfl rfl rfl fun _ s =>
(box_set (i := 0) s rfl rfl rfl fun _ s =>
(box_set (i := 0) s rfl rfl rfl fun _ s =>
(box_set (i := 0) s rfl rfl rfl fun _ s =>
(box_set (i := 0) s rfl rfl rfl fun _ s =>
(have s : Sim _ _ ((b8, [(.int .i64 (0 : Int)), (.bool true), (.bool true), (.bool true), (.bool false), (.bool false), (.bool false)], 47) :: (b3, [(.int .i64 (0 : Int)), (.bool false), (.bool false), (.bool false), (.bool false), (.bool false), (.bool false)], 47) :: (b2, [(.bool p5), (.bool p6), (.bool p7)], 34) :: (b1, [(.int .i64 p0), (.slice p1.a p1.len p1.cap), (.map p2)], 28) :: L) _ := s;
(newA_pro s (by first | exact rfl | exact True.intro) hh fun b9 _ _ s hh =>
(match hh with | ⟨R11, q1, hh⟩ => ⟨fun s68 h => ∃ c69 : Int, ∃ c70 : Bool, ∃ c71 : Bool, ∃ c72 : Bool, ∃ c73 : Bool, ∃ c74 : Bool, ∃ c75 : Bool, ∃ A, Sim Z A ((b8, [(.int .i64 c69), (.bool c70), (.bool c71), (.bool c72), (.bool c73), (.bool c74), (.bool c75)], 47) :: (b3, [(.int .i64 (0 : Int)), (.bool false), (.bool false), (.bool false), (.bool false), (.bool false), (.bool false)], 47) :: (b2, [(.bool p5), (.bool p6), (.bool p7)], 34) :: (b1, [(.int .i64 p0), (.slice p1.a p1.len p1.cap), (.map p2)], 28) :: L) h ∧ R11 s68 c69 c70 c71 c72 c73 c74 c75 A, fun s68 h ⟨c69, c70, c71, c72, c73, c74, c75, h76, s, q2⟩ => (have hh := q1 s68 c69 c70 c71 c72 c73 c74 c75 h76 q2;
(box_B (i := 0) s rfl rfl
(box_B (i := 0) s rfl rfl
(box_B (i := 0) s rfl rfl
(box_B (i := 2) s rfl rfl
(box_B (i := 2) s rfl rfl
(box_B (i := 2) s rfl rfl
(demesneref04_May_pro (fun b77 _ _ s hh =>
(bsel_pro hh (fun hh =>
(box_B (i := 2) s rfl rfl
(box_B (i := 2) s rfl rfl
(box_B (i := 2) s rfl rfl
(demesneref04_Code_pro (fun n79 _ _ s hh =>
(box_set (i := 1) s rfl rfl rfl fun _ s =>
(box_set (i := 1) s rfl rfl rfl fun _ s =>
(box_set (i := 1) s rfl rfl rfl fun _ s =>
(box_set (i := 1) s rfl rfl rfl fun _ s =>
(box_set (i := 1) s rfl rfl rfl fun _ s =>
(box_set (i := 1) s rfl rfl rfl fun _ s =>
(box_set (i := 1) s rfl rfl rfl fun _ s =>
(have s : Sim _ _ ((b8, [(.int .i64 c69), (.bool c70), (.bool c71), (.bool c72), (.bool c73), (.bool c74), (.bool c75)], 47) :: (b3, [(.int .i64 (0 : Int)), (.bool false), (.bool false), (.bool false), (.bool false), (.bool false), (.bool false)], 47) :: (b2, [(.bool p5), (.bool p6), (.bool p7)], 34) :: (b1, [(.int .i64 p0), (.slice p1.a p1.len p1.cap), (.map p2)], 28) :: L) _ := s;
(box_I (i := 1) s rfl rfl
(box_B (i := 1) s rfl rfl
(box_B (i := 1) s rfl rfl
(box_B (i := 1) s rfl rfl
(box_B (i := 1) s rfl rfl
(box_B (i := 1) s rfl rfl
(box_B (i := 1) s rfl rfl
(hq _ _ _ _ _ _ _ _ _ _ _ (s.keep (.cons _ (.cons _ (.cons _ (.cons _ (List.Sublist.refl _)))))) hh))))))))))))))))) s hh))))) (fun hh =>
(match hh with | ⟨I81, ⟨q0, q1⟩, q2⟩ => ⟨fun x85 m h => ∃ A, Sim Z A ((b8, [(.int .i64 c69), (.bool c70), (.bool c71), (.bool c72), (.bool c73), (.bool c74), (.bool c75)], 47) :: (b3, [(.int .i64 (0 : Int)), (.bool false), (.bool false), (.bool false), (.bool false), (.bool false), (.bool false)], 47) :: (b2, [(.bool p5), (.bool p6), (.bool p7)], 34) :: (b1, [(.int .i64 p0), (.slice p1.a p1.len p1.cap), (.map p2)], 28) :: L) h ∧ I81 x85 m A, ⟨q0, _, s, q1⟩, fun x85 m82 h ⟨h84, s, q3⟩ => (have hh := q2 x85 m82 h84 q3;
(bsel_pro hh (fun hh =>
(onSome_pro hh fun a86 hh =>
(inB_pro hh fun hh =>
(aI_pro s hh fun n87 hh =>
(box_I (i := 3) s rfl rfl
(box_S (i := 3) s rfl rfl
(box_M (i := 3) s rfl rfl
(demesneref01_Load_pro (fun n88 _ _ s hh =>
(match hh with | ⟨R90, q1, hh⟩ => ⟨fun x93 h => ∃ A, Sim Z A ((b8, [(.int .i64 c69), (.bool c70), (.bool c71), (.bool c72), (.bool c73), (.bool c74), (.bool c75)], 47) :: (b3, [(.int .i64 (0 : Int)), (.bool false), (.bool false), (.bool false), (.bool false), (.bool false), (.bool false)], 47) :: (b2, [(.bool p5), (.bool p6), (.bool p7)], 34) :: (b1, [(.int .i64 p0), (.slice p1.a p1.len p1.cap), (.map p2)], 28) :: L) h ∧ R90 x93 A, fun x93 h ⟨h94, s, q2⟩ => (have hh := q1 x93 h94 q2;
(match hh with | ⟨R95, q1, hh⟩ => ⟨fun x98 h => ∃ A, Sim Z A ((b8, [(.int .i64 c69), (.bool c70), (.bool c71), (.bool c72), (.bool c73), (.bool c74), (.bool c75)], 47) :: (b3, [(.int .i64 (0 : Int)), (.bool false), (.bool false), (.bool false), (.bool false), (.bool false), (.bool false)], 47) :: (b2, [(.bool p5), (.bool p6), (.bool p7)], 34) :: (b1, [(.int .i64 p0), (.slice p1.a p1.len p1.cap), (.map p2)], 28) :: L) h ∧ R95 x98 A, fun x98 h ⟨h99, s, q2⟩ => (have hh := q1 x98 h99 q2;
(box_I (i := 3) s rfl rfl
(box_S (i := 3) s rfl rfl
(box_M (i := 3) s rfl rfl
(demesneref01_Store_pro (fun  _ _ s hh =>
(match hh with | ⟨m83, q1, q2⟩ => ⟨m83, q1, _, s, q2⟩)) s hh))))),
(box_B (i := 2) s rfl rfl
(bsel_pro hh (fun hh =>
(bsel_pro hh (fun hh =>
(demesneref03_Bit_pro (fun b96 _ _ s hh =>
(bsel_pro hh (fun hh =>
⟨_, s, hh⟩) (fun hh =>
⟨_, s, hh⟩))) s hh)) (fun hh =>
⟨_, s, hh⟩))) (fun hh =>
⟨_, s, hh⟩)))⟩)),
(demesneref03_Bit_pro (fun b91 _ _ s hh =>
(bsel_pro hh (fun hh =>
⟨_, s, hh⟩) (fun hh =>
⟨_, s, hh⟩))) s hh)⟩)) s hh)))))))) (fun hh =>
(box_I (i := 0) s rfl rfl
(box_B (i := 0) s rfl rfl
(box_B (i := 0) s rfl rfl
(box_B (i := 0) s rfl rfl
(box_B (i := 0) s rfl rfl
(box_B (i := 0) s rfl rfl
(box_B (i := 0) s rfl rfl
(box_set (i := 1) s rfl rfl rfl fun _ s =>
(box_set (i := 1) s rfl rfl rfl fun _ s =>
(box_set (i := 1) s rfl rfl rfl fun _ s =>
(box_set (i := 1) s rfl rfl rfl fun _ s =>
(box_set (i := 1) s rfl rfl rfl fun _ s =>
(box_set (i := 1) s rfl rfl rfl fun _ s =>
(box_set (i := 1) s rfl rfl rfl fun _ s =>
(have s : Sim _ _ ((b8, [(.int .i64 c69), (.bool c70), (.bool c71), (.bool c72), (.bool c73), (.bool c74), (.bool c75)], 47) :: (b3, [(.int .i64 c69), (.bool c70), (.bool c71), (.bool c72), (.bool c73), (.bool c74), (.bool c75)], 47) :: (b2, [(.bool p5), (.bool p6), (.bool p7)], 34) :: (b1, [(.int .i64 p0), (.slice p1.a p1.len p1.cap), (.map p2)], 28) :: L) _ := s;
(box_I (i := 1) s rfl rfl
(box_B (i := 1) s rfl rfl
(box_B (i := 1) s rfl rfl
(box_B (i := 1) s rfl rfl
(box_B (i := 1) s rfl rfl
(box_B (i := 1) s rfl rfl
(box_B (i := 1) s rfl rfl
(hq _ _ _ _ _ _ _ _ _ _ _ (s.keep (.cons _ (.cons _ (.cons _ (.cons _ (List.Sublist.refl _)))))) hh))))))))))))))))))))))))))⟩)))) s hh)))))))),
(match hh with | ⟨I12, ⟨q0, q1⟩, q2⟩ => ⟨fun s16 x17 x18 m h => ∃ c19 : Bool, ∃ c20 : Bool, ∃ c21 : Bool, ∃ A, Sim Z A ((b8, [(.int .i64 (0 : Int)), (.bool c19), (.bool c20), (.bool c21), (.bool false), (.bool false), (.bool false)], 47) :: (b3, [(.int .i64 (0 : Int)), (.bool false), (.bool false), (.bool false), (.bool false), (.bool false), (.bool false)], 47) :: (b2, [(.bool p5), (.bool p6), (.bool p7)], 34) :: (b1, [(.int .i64 p0), (.slice p1.a p1.len p1.cap), (.map p2)], 28) :: L) h ∧ I12 s16 x17 x18 c19 c20 c21 m A, ⟨q0, true, true, true, _, s, q1⟩, fun s16 x17 x18 m13 h ⟨c19, c20, c21, h15, s, q3⟩ => (have hh := q2 s16 x17 x18 c19 c20 c21 m13 h15 q3;
(bsel_pro hh (fun hh =>
(box_I (i := 3) s rfl rfl
(box_S (i := 3) s rfl rfl
(box_M (i := 3) s rfl rfl
(demesneref01_Has_pro (fun b22 _ _ s hh =>
(bsel_pro hh (fun hh =>
(box_set (i := 1) s rfl rfl rfl fun _ s =>
(box_set (i := 1) s rfl rfl rfl fun _ s =>
(box_set (i := 1) s rfl rfl rfl fun _ s =>
(box_set (i := 1) s rfl rfl rfl fun _ s =>
(box_set (i := 1) s rfl rfl rfl fun _ s =>
(box_set (i := 1) s rfl rfl rfl fun _ s =>
(box_set (i := 1) s rfl rfl rfl fun _ s =>
(have s : Sim _ _ ((b8, [(.int .i64 (0 : Int)), (.bool c19), (.bool c20), (.bool c21), (.bool false), (.bool false), (.bool false)], 47) :: (b3, [(.int .i64 (0 : Int)), (.bool false), (.bool false), (.bool false), (.bool false), (.bool false), (.bool false)], 47) :: (b2, [(.bool p5), (.bool p6), (.bool p7)], 34) :: (b1, [(.int .i64 p0), (.slice p1.a p1.len p1.cap), (.map p2)], 28) :: L) _ := s;
(box_I (i := 1) s rfl rfl
(box_B (i := 1) s rfl rfl
(box_B (i := 1) s rfl rfl
(box_B (i := 1) s rfl rfl
(box_B (i := 1) s rfl rfl
(box_B (i := 1) s rfl rfl
(box_B (i := 1) s rfl rfl
(hq _ _ _ _ _ _ _ _ _ _ _ (s.keep (.cons _ (.cons _ (.cons _ (.cons _ (List.Sublist.refl _)))))) hh))))))))))))))))) (fun hh =>
(demesneref03_Part_pro (fun n24 _ _ s hh =>
(box_I (i := 3) s rfl rfl
(box_S (i := 3) s rfl rfl
(box_M (i := 3) s rfl rfl
(demesneref01_Load_pro (fun n26 _ _ s hh =>
(demesneref03_Unpack_pro (fun b28 b29 b30 b31 b32 b33 b34 b35 n36 _ _ s hh =>
(box_new s fun b38 _ s =>
(box_set (i := 0) s rfl rfl rfl fun _ s =>
(box_set (i := 0) s rfl rfl rfl fun _ s =>
(box_set (i := 0) s rfl rfl rfl fun _ s =>
(box_set (i := 0) s rfl rfl rfl fun _ s =>
(box_set (i := 0) s rfl rfl rfl fun _ s =>
(box_set (i := 0) s rfl rfl rfl fun _ s =>
(box_set (i := 0) s rfl rfl rfl fun _ s =>
(box_set (i := 0) s rfl rfl rfl fun _ s =>
(box_set (i := 0) s rfl rfl rfl fun _ s =>
(have s : Sim _ _ ((b38, [(.bool b28), (.bool b29), (.bool b30), (.bool b31), (.bool b32), (.bool b33), (.bool b34), (.bool b35), (.int .i64 n36)], 92) :: (b8, [(.int .i64 (0 : Int)), (.bool c19), (.bool c20), (.bool c21), (.bool false), (.bool false), (.bool false)], 47) :: (b3, [(.int .i64 (0 : Int)), (.bool false), (.bool false), (.bool false), (.bool false), (.bool false), (.bool false)], 47) :: (b2, [(.bool p5), (.bool p6), (.bool p7)], 34) :: (b1, [(.int .i64 p0), (.slice p1.a p1.len p1.cap), (.map p2)], 28) :: L) _ := s;
(box_B (i := 0) s rfl rfl
(bsel_pro hh (fun hh =>
(box_B (i := 3) s rfl rfl
(box_B (i := 3) s rfl rfl
(box_B (i := 3) s rfl rfl
(demesneref04_Code_pro (fun n39 _ _ s hh =>
(box_set (i := 2) s rfl rfl rfl fun _ s =>
(box_set (i := 2) s rfl rfl rfl fun _ s =>
(box_set (i := 2) s rfl rfl rfl fun _ s =>
(box_set (i := 2) s rfl rfl rfl fun _ s =>
(box_set (i := 2) s rfl rfl rfl fun _ s =>
(box_set (i := 2) s rfl rfl rfl fun _ s =>
(box_set (i := 2) s rfl rfl rfl fun _ s =>
(have s : Sim _ _ ((b38, [(.bool b28), (.bool b29), (.bool b30), (.bool b31), (.bool b32), (.bool b33), (.bool b34), (.bool b35), (.int .i64 n36)], 92) :: (b8, [(.int .i64 (0 : Int)), (.bool c19), (.bool c20), (.bool c21), (.bool false), (.bool false), (.bool false)], 47) :: (b3, [(.int .i64 (0 : Int)), (.bool false), (.bool false), (.bool false), (.bool false), (.bool false), (.bool false)], 47) :: (b2, [(.bool p5), (.bool p6), (.bool p7)], 34) :: (b1, [(.int .i64 p0), (.slice p1.a p1.len p1.cap), (.map p2)], 28) :: L) _ := s;
(box_I (i := 2) s rfl rfl
(box_B (i := 2) s rfl rfl
(box_B (i := 2) s rfl rfl
(box_B (i := 2) s rfl rfl
(box_B (i := 2) s rfl rfl
(box_B (i := 2) s rfl rfl
(box_B (i := 2) s rfl rfl
(hq _ _ _ _ _ _ _ _ _ _ _ (s.keep (.cons _ (.cons _ (.cons _ (.cons _ (.cons _ (List.Sublist.refl _))))))) hh))))))))))))))))) s hh))))) (fun hh =>
(demesneref03_Reserved_pro (fun b41 _ _ s hh =>
(bsel_pro hh (fun hh =>
(box_B (i := 3) s rfl rfl
(box_B (i := 3) s rfl rfl
(box_B (i := 3) s rfl rfl
(demesneref04_Code_pro (fun n43 _ _ s hh =>
(box_set (i := 2) s rfl rfl rfl fun _ s =>
(box_set (i := 2) s rfl rfl rfl fun _ s =>
(box_set (i := 2) s rfl rfl rfl fun _ s =>
(box_set (i := 2) s rfl rfl rfl fun _ s =>
(box_set (i := 2) s rfl rfl rfl fun _ s =>
(box_set (i := 2) s rfl rfl rfl fun _ s =>
(box_set (i := 2) s rfl rfl rfl fun _ s =>
(have s : Sim _ _ ((b38, [(.bool b28), (.bool b29), (.bool b30), (.bool b31), (.bool b32), (.bool b33), (.bool b34), (.bool b35), (.int .i64 n36)], 92) :: (b8, [(.int .i64 (0 : Int)), (.bool c19), (.bool c20), (.bool c21), (.bool false), (.bool false), (.bool false)], 47) :: (b3, [(.int .i64 (0 : Int)), (.bool false), (.bool false), (.bool false), (.bool false), (.bool false), (.bool false)], 47) :: (b2, [(.bool p5), (.bool p6), (.bool p7)], 34) :: (b1, [(.int .i64 p0), (.slice p1.a p1.len p1.cap), (.map p2)], 28) :: L) _ := s;
(box_I (i := 2) s rfl rfl
(box_B (i := 2) s rfl rfl
(box_B (i := 2) s rfl rfl
(box_B (i := 2) s rfl rfl
(box_B (i := 2) s rfl rfl
(box_B (i := 2) s rfl rfl
(box_B (i := 2) s rfl rfl
(hq _ _ _ _ _ _ _ _ _ _ _ (s.keep (.cons _ (.cons _ (.cons _ (.cons _ (.cons _ (List.Sublist.refl _))))))) hh))))))))))))))))) s hh))))) (fun hh =>
(newA_pro s (by first | exact rfl | exact True.intro) hh fun b45 _ _ s hh =>
(apA_pro s hh fun s47 _ _ s hh =>
(match hh with | ⟨R49, q1, hh⟩ => ⟨fun  h => ∃ c50 : Bool, ∃ A, Sim Z A ((b38, [(.bool b28), (.bool b29), (.bool b30), (.bool b31), (.bool b32), (.bool b33), (.bool b34), (.bool b35), (.int .i64 n36)], 92) :: (b8, [(.int .i64 (0 : Int)), (.bool c50), (.bool c20), (.bool c21), (.bool false), (.bool false), (.bool false)], 47) :: (b3, [(.int .i64 (0 : Int)), (.bool false), (.bool false), (.bool false), (.bool false), (.bool false), (.bool false)], 47) :: (b2, [(.bool p5), (.bool p6), (.bool p7)], 34) :: (b1, [(.int .i64 p0), (.slice p1.a p1.len p1.cap), (.map p2)], 28) :: L) h ∧ R49 c50 A, fun  h ⟨c50, h51, s, q2⟩ => (have hh := q1 c50 h51 q2;
(match hh with | ⟨R52, q1, hh⟩ => ⟨fun  h => ∃ c53 : Bool, ∃ A, Sim Z A ((b38, [(.bool b28), (.bool b29), (.bool b30), (.bool b31), (.bool b32), (.bool b33), (.bool b34), (.bool b35), (.int .i64 n36)], 92) :: (b8, [(.int .i64 (0 : Int)), (.bool c50), (.bool c53), (.bool c21), (.bool false), (.bool false), (.bool false)], 47) :: (b3, [(.int .i64 (0 : Int)), (.bool false), (.bool false), (.bool false), (.bool false), (.bool false), (.bool false)], 47) :: (b2, [(.bool p5), (.bool p6), (.bool p7)], 34) :: (b1, [(.int .i64 p0), (.slice p1.a p1.len p1.cap), (.map p2)], 28) :: L) h ∧ R52 c53 A, fun  h ⟨c53, h54, s, q2⟩ => (have hh := q1 c53 h54 q2;
(match hh with | ⟨R55, q1, hh⟩ => ⟨fun  h => ∃ c56 : Bool, ∃ A, Sim Z A ((b38, [(.bool b28), (.bool b29), (.bool b30), (.bool b31), (.bool b32), (.bool b33), (.bool b34), (.bool b35), (.int .i64 n36)], 92) :: (b8, [(.int .i64 (0 : Int)), (.bool c50), (.bool c53), (.bool c56), (.bool false), (.bool false), (.bool false)], 47) :: (b3, [(.int .i64 (0 : Int)), (.bool false), (.bool false), (.bool false), (.bool false), (.bool false), (.bool false)], 47) :: (b2, [(.bool p5), (.bool p6), (.bool p7)], 34) :: (b1, [(.int .i64 p0), (.slice p1.a p1.len p1.cap), (.map p2)], 28) :: L) h ∧ R55 c56 A, fun  h ⟨c56, h57, s, q2⟩ => (have hh := q1 c56 h57 q2;
(box_I (i := 0) s rfl rfl
(match hh with | ⟨R58, q1, hh⟩ => ⟨fun b59 h => ∃ A, Sim Z A ((b38, [(.bool b28), (.bool b29), (.bool b30), (.bool b31), (.bool b32), (.bool b33), (.bool b34), (.bool b35), (.int .i64 n36)], 92) :: (b8, [(.int .i64 (0 : Int)), (.bool c50), (.bool c53), (.bool c56), (.bool false), (.bool false), (.bool false)], 47) :: (b3, [(.int .i64 (0 : Int)), (.bool false), (.bool false), (.bool false), (.bool false), (.bool false), (.bool false)], 47) :: (b2, [(.bool p5), (.bool p6), (.bool p7)], 34) :: (b1, [(.int .i64 p0), (.slice p1.a p1.len p1.cap), (.map p2)], 28) :: L) h ∧ R58 b59 A, fun b59 h ⟨h60, s, q2⟩ => (have hh := q1 b59 h60 q2;
(bsel_pro hh (fun hh =>
(box_I (i := 0) s rfl rfl
(box_set (i := 1) s rfl rfl rfl fun _ s =>
(have s : Sim _ _ ((b38, [(.bool b28), (.bool b29), (.bool b30), (.bool b31), (.bool b32), (.bool b33), (.bool b34), (.bool b35), (.int .i64 n36)], 92) :: (b8, [(.int .i64 n36), (.bool c50), (.bool c53), (.bool c56), (.bool false), (.bool false), (.bool false)], 47) :: (b3, [(.int .i64 (0 : Int)), (.bool false), (.bool false), (.bool false), (.bool false), (.bool false), (.bool false)], 47) :: (b2, [(.bool p5), (.bool p6), (.bool p7)], 34) :: (b1, [(.int .i64 p0), (.slice p1.a p1.len p1.cap), (.map p2)], 28) :: L) _ := s;
(box_B (i := 0) s rfl rfl
(box_set (i := 1) s rfl rfl rfl fun _ s =>
(have s : Sim _ _ ((b38, [(.bool b28), (.bool b29), (.bool b30), (.bool b31), (.bool b32), (.bool b33), (.bool b34), (.bool b35), (.int .i64 n36)], 92) :: (b8, [(.int .i64 n36), (.bool c50), (.bool c53), (.bool c56), (.bool b34), (.bool false), (.bool false)], 47) :: (b3, [(.int .i64 (0 : Int)), (.bool false), (.bool false), (.bool false), (.bool false), (.bool false), (.bool false)], 47) :: (b2, [(.bool p5), (.bool p6), (.bool p7)], 34) :: (b1, [(.int .i64 p0), (.slice p1.a p1.len p1.cap), (.map p2)], 28) :: L) _ := s;
(match hh with | ⟨R61, q1, hh⟩ => ⟨fun  h => ∃ c62 : Bool, ∃ A, Sim Z A ((b8, [(.int .i64 n36), (.bool c50), (.bool c53), (.bool c56), (.bool b34), (.bool false), (.bool c62)], 47) :: (b3, [(.int .i64 (0 : Int)), (.bool false), (.bool false), (.bool false), (.bool false), (.bool false), (.bool false)], 47) :: (b2, [(.bool p5), (.bool p6), (.bool p7)], 34) :: (b1, [(.int .i64 p0), (.slice p1.a p1.len p1.cap), (.map p2)], 28) :: L) h ∧ R61 c62 A, fun  h ⟨c62, h63, s, q2⟩ => (have hh := q1 c62 h63 q2;
(box_set (i := 0) s rfl rfl rfl fun _ s =>
(have s : Sim _ _ ((b8, [(.int .i64 n36), (.bool c50), (.bool c53), (.bool c56), (.bool b34), (.bool (x18 == (2 : Int))), (.bool c62)], 47) :: (b3, [(.int .i64 (0 : Int)), (.bool false), (.bool false), (.bool false), (.bool false), (.bool false), (.bool false)], 47) :: (b2, [(.bool p5), (.bool p6), (.bool p7)], 34) :: (b1, [(.int .i64 p0), (.slice p1.a p1.len p1.cap), (.map p2)], 28) :: L) _ := s;
(box_B (i := 0) s rfl rfl
(bsel_pro hh (fun hh =>
(match hh with | ⟨S64, q0, hh⟩ => ⟨fun h => ∃ A, Sim Z A ((b8, [(.int .i64 n36), (.bool c50), (.bool c53), (.bool c56), (.bool b34), (.bool (x18 == (2 : Int))), (.bool c62)], 47) :: (b3, [(.int .i64 (0 : Int)), (.bool false), (.bool false), (.bool false), (.bool false), (.bool false), (.bool false)], 47) :: (b2, [(.bool p5), (.bool p6), (.bool p7)], 34) :: (b1, [(.int .i64 p0), (.slice p1.a p1.len p1.cap), (.map p2)], 28) :: L) h ∧ S64 A, ⟨_, s, q0⟩,
(box_I (i := 0) s rfl rfl
(match hh with | ⟨q1, q2, hh⟩ => ⟨⟨_, s, q1⟩, fun _ ⟨h67, s, q1⟩ => (have hh := q2 h67 q1;
(box_I (i := 0) s rfl rfl
hh)),
(demesneref03_Part_pro (fun n65 _ _ s hh =>
(match hh with | ⟨q1, hh⟩ => ⟨⟨_, s, q1⟩,
(box_set (i := 0) s rfl rfl rfl fun _ s =>
(have s : Sim _ _ ((b8, [(.int .i64 (IntKind.wrap .i64 (n36 + n65))), (.bool c50), (.bool c53), (.bool c56), (.bool b34), (.bool (x18 == (2 : Int))), (.bool c62)], 47) :: (b3, [(.int .i64 (0 : Int)), (.bool false), (.bool false), (.bool false), (.bool false), (.bool false), (.bool false)], 47) :: (b2, [(.bool p5), (.bool p6), (.bool p7)], 34) :: (b1, [(.int .i64 p0), (.slice p1.a p1.len p1.cap), (.map p2)], 28) :: L) _ := s;
⟨(IntKind.wrap .i64 (n36 + n65)), c50, c53, c56, b34, (x18 == (2 : Int)), c62, _, s, hh⟩))⟩)) s hh)⟩))⟩)) (fun hh =>
⟨n36, c50, c53, c56, b34, (x18 == (2 : Int)), c62, _, s, hh⟩)))))),
(box_B (i := 0) s rfl rfl
(bsel_pro hh (fun hh =>
(box_set (i := 1) s rfl rfl rfl fun _ s =>
(have s : Sim _ _ ((b38, [(.bool b28), (.bool b29), (.bool b30), (.bool b31), (.bool b32), (.bool b33), (.bool b34), (.bool b35), (.int .i64 n36)], 92) :: (b8, [(.int .i64 n36), (.bool c50), (.bool c53), (.bool c56), (.bool b34), (.bool false), (.bool true)], 47) :: (b3, [(.int .i64 (0 : Int)), (.bool false), (.bool false), (.bool false), (.bool false), (.bool false), (.bool false)], 47) :: (b2, [(.bool p5), (.bool p6), (.bool p7)], 34) :: (b1, [(.int .i64 p0), (.slice p1.a p1.len p1.cap), (.map p2)], 28) :: L) _ := s;
⟨true, _, (s.keep (.cons _ (.cons_cons _ (.cons_cons _ (.cons_cons _ (.cons_cons _ (List.Sublist.refl _))))))), hh⟩))) (fun hh =>
(box_B (i := 3) s rfl rfl
(box_set (i := 1) s rfl rfl rfl fun _ s =>
(have s : Sim _ _ ((b38, [(.bool b28), (.bool b29), (.bool b30), (.bool b31), (.bool b32), (.bool b33), (.bool b34), (.bool b35), (.int .i64 n36)], 92) :: (b8, [(.int .i64 n36), (.bool c50), (.bool c53), (.bool c56), (.bool b34), (.bool false), (.bool p5)], 47) :: (b3, [(.int .i64 (0 : Int)), (.bool false), (.bool false), (.bool false), (.bool false), (.bool false), (.bool false)], 47) :: (b2, [(.bool p5), (.bool p6), (.bool p7)], 34) :: (b1, [(.int .i64 p0), (.slice p1.a p1.len p1.cap), (.map p2)], 28) :: L) _ := s;
⟨p5, _, (s.keep (.cons _ (.cons_cons _ (.cons_cons _ (.cons_cons _ (.cons_cons _ (List.Sublist.refl _))))))), hh⟩))))))⟩)))))))) (fun hh =>
(match hh with | ⟨m14, q1, q2⟩ => ⟨m14, q1, c50, c53, c56, _, (s.keep (.cons _ (.cons_cons _ (.cons_cons _ (.cons_cons _ (.cons_cons _ (List.Sublist.refl _))))))), q2⟩)))),
(bsel_pro hh (fun hh =>
⟨_, s, hh⟩) (fun hh =>
(bsel_pro hh (fun hh =>
(box_B (i := 0) s rfl rfl
⟨_, s, hh⟩)) (fun hh =>
⟨_, s, hh⟩))))⟩))),
(box_B (i := 1) s rfl rfl
(bsel_pro hh (fun hh =>
(box_B (i := 0) s rfl rfl
(box_set (i := 1) s rfl rfl rfl fun _ s =>
(have s : Sim _ _ ((b38, [(.bool b28), (.bool b29), (.bool b30), (.bool b31), (.bool b32), (.bool b33), (.bool b34), (.bool b35), (.int .i64 n36)], 92) :: (b8, [(.int .i64 (0 : Int)), (.bool c50), (.bool c53), (.bool (!b35)), (.bool false), (.bool false), (.bool false)], 47) :: (b3, [(.int .i64 (0 : Int)), (.bool false), (.bool false), (.bool false), (.bool false), (.bool false), (.bool false)], 47) :: (b2, [(.bool p5), (.bool p6), (.bool p7)], 34) :: (b1, [(.int .i64 p0), (.slice p1.a p1.len p1.cap), (.map p2)], 28) :: L) _ := s;
⟨(!b35), _, s, hh⟩)))) (fun hh =>
(box_set (i := 1) s rfl rfl rfl fun _ s =>
(have s : Sim _ _ ((b38, [(.bool b28), (.bool b29), (.bool b30), (.bool b31), (.bool b32), (.bool b33), (.bool b34), (.bool b35), (.int .i64 n36)], 92) :: (b8, [(.int .i64 (0 : Int)), (.bool c50), (.bool c53), (.bool false), (.bool false), (.bool false), (.bool false)], 47) :: (b3, [(.int .i64 (0 : Int)), (.bool false), (.bool false), (.bool false), (.bool false), (.bool false), (.bool false)], 47) :: (b2, [(.bool p5), (.bool p6), (.bool p7)], 34) :: (b1, [(.int .i64 p0), (.slice p1.a p1.len p1.cap), (.map p2)], 28) :: L) _ := s;
⟨false, _, s, hh⟩)))))⟩)),
(box_B (i := 1) s rfl rfl
(bsel_pro hh (fun hh =>
(box_B (i := 0) s rfl rfl
(box_set (i := 1) s rfl rfl rfl fun _ s =>
(have s : Sim _ _ ((b38, [(.bool b28), (.bool b29), (.bool b30), (.bool b31), (.bool b32), (.bool b33), (.bool b34), (.bool b35), (.int .i64 n36)], 92) :: (b8, [(.int .i64 (0 : Int)), (.bool c50), (.bool b30), (.bool c21), (.bool false), (.bool false), (.bool false)], 47) :: (b3, [(.int .i64 (0 : Int)), (.bool false), (.bool false), (.bool false), (.bool false), (.bool false), (.bool false)], 47) :: (b2, [(.bool p5), (.bool p6), (.bool p7)], 34) :: (b1, [(.int .i64 p0), (.slice p1.a p1.len p1.cap), (.map p2)], 28) :: L) _ := s;
⟨b30, _, s, hh⟩)))) (fun hh =>
(box_set (i := 1) s rfl rfl rfl fun _ s =>
(have s : Sim _ _ ((b38, [(.bool b28), (.bool b29), (.bool b30), (.bool b31), (.bool b32), (.bool b33), (.bool b34), (.bool b35), (.int .i64 n36)], 92) :: (b8, [(.int .i64 (0 : Int)), (.bool c50), (.bool false), (.bool c21), (.bool false), (.bool false), (.bool false)], 47) :: (b3, [(.int .i64 (0 : Int)), (.bool false), (.bool false), (.bool false), (.bool false), (.bool false), (.bool false)], 47) :: (b2, [(.bool p5), (.bool p6), (.bool p7)], 34) :: (b1, [(.int .i64 p0), (.slice p1.a p1.len p1.cap), (.map p2)], 28) :: L) _ := s;
⟨false, _, s, hh⟩)))))⟩)),
(box_B (i := 1) s rfl rfl
(bsel_pro hh (fun hh =>
(box_B (i := 0) s rfl rfl
(box_set (i := 1) s rfl rfl rfl fun _ s =>
(have s : Sim _ _ ((b38, [(.bool b28), (.bool b29), (.bool b30), (.bool b31), (.bool b32), (.bool b33), (.bool b34), (.bool b35), (.int .i64 n36)], 92) :: (b8, [(.int .i64 (0 : Int)), (.bool b29), (.bool c20), (.bool c21), (.bool false), (.bool false), (.bool false)], 47) :: (b3, [(.int .i64 (0 : Int)), (.bool false), (.bool false), (.bool false), (.bool false), (.bool false), (.bool false)], 47) :: (b2, [(.bool p5), (.bool p6), (.bool p7)], 34) :: (b1, [(.int .i64 p0), (.slice p1.a p1.len p1.cap), (.map p2)], 28) :: L) _ := s;
⟨b29, _, s, hh⟩)))) (fun hh =>
(box_set (i := 1) s rfl rfl rfl fun _ s =>
(have s : Sim _ _ ((b38, [(.bool b28), (.bool b29), (.bool b30), (.bool b31), (.bool b32), (.bool b33), (.bool b34), (.bool b35), (.int .i64 n36)], 92) :: (b8, [(.int .i64 (0 : Int)), (.bool false), (.bool c20), (.bool c21), (.bool false), (.bool false), (.bool false)], 47) :: (b3, [(.int .i64 (0 : Int)), (.bool false), (.bool false), (.bool false), (.bool false), (.bool false), (.bool false)], 47) :: (b2, [(.bool p5), (.bool p6), (.bool p7)], 34) :: (b1, [(.int .i64 p0), (.slice p1.a p1.len p1.cap), (.map p2)], 28) :: L) _ := s;
⟨false, _, s, hh⟩)))))⟩)))))) s hh)))))))))))))))) s hh)) s hh))))) s hh)))) s hh))))) (fun hh =>
⟨(0 : Int), c19, c20, c21, false, false, false, _, s, hh⟩)))⟩)⟩)))))))))))))) s hh))))))) s hh))))

/- demesne/demesnelaw04.Same -/
def demesnelaw04_Same_A (p0 : Option Addr) (p1 : Int) (p2 : Sl) (p3 : Option Nat) (p4 : Sl) (Q : Int → AH → Prop) (h : AH) : Prop :=
(∃ I2 : Int → Nat → AH → Prop, (∃ m3, I2 (0 : Int) m3 h) ∧ ∀ x6 : Int, ∀ m3 h5, I2 x6 m3 h5 → 
(bsel (decide (x6 < (Int.ofNat p4.len)))
(bsel (decide (x6 < (40 : Int)))
(∃ R7 : AH → Prop, (∀ h18, R7 h18 → 
(∃ m4, m4 < m3 ∧ I2 (IntKind.wrap .i64 (x6 + (1 : Int))) m4 h18)) ∧
(onSome p4.a fun a8 =>
(inB x6 p4.len
(aI .i64 (Addr.add a8 (Int.toNat x6 * 3)) h5 fun n9 =>
(aI .i64 (Addr.add (Addr.add a8 (Int.toNat x6 * 3)) 1) h5 fun n10 =>
(aI .u64 (Addr.add (Addr.add a8 (Int.toNat x6 * 3)) 2) h5 fun n11 =>
(bsel (decide (n9 < (0 : Int)))
(R7 h5)
(bsel (decide (n9 > (6 : Int)))
(R7 h5)
(bsel (decide (n10 < (0 : Int)))
(R7 h5)
(bsel (decide (n10 > (511 : Int)))
(R7 h5)
(ram_RAM_Load_A p0 (IntKind.wrap .u64 ((IntKind.wrap .u64 ((IntKind.wrap .u64 n9) * (4096 : Int))) + (IntKind.wrap .u64 (IntKind.wrap .i64 ((8 : Int) * n10))))) (8 : Int) (fun n13 n14 h15 =>
(bsel (n14 != (0 : Int))
(Q (-1 : Int) h15)
(demesneref01_Load_A p1 p2 p3 (IntKind.wrap .u64 ((IntKind.wrap .u64 ((IntKind.wrap .u64 n9) * (4096 : Int))) + (IntKind.wrap .u64 (IntKind.wrap .i64 ((8 : Int) * n10))))) (8 : Int) (fun n16 h17 =>
(bsel (n13 != n16)
(Q (-1 : Int) h17)
(R7 h17))) h15))) h5)))))))))))
(Q (0 : Int) h5))
(Q (0 : Int) h5)))
set_option maxHeartbeats 4000000 in
theorem demesnelaw04_Same_pro {Z : Nat → Prop} {A : AH} {L : Bx} {h : Hp} {p0 : Option Addr} {p1 : Int} {p2 : Sl} {p3 : Option Nat} {p4 : Sl} {Q : Int → Hp → Prop} {Q2 : Int → AH → Prop} (hq : ∀ r0 A h, Sim Z A L h → Q2 r0 A → Q r0 h) (s : Sim Z A L h) (hh : demesnelaw04_Same_A p0 p1 p2 p3 p4 Q2 A) : demesnelaw04_Same p0 p1 p2 p3 p4 Q h := by
  unfold demesnelaw04_Same_A at hh
  unfold demesnelaw04_Same demesnelaw04_Same_G
  exact (box_new s fun b1 _ s =>
(match hh with | ⟨I2, ⟨q0, q1⟩, q2⟩ => ⟨fun x6 m h => ∃ A, Sim Z A ((b1, [(.int .i64 p1), (.slice p2.a p2.len p2.cap), (.map p3)], 28) :: L) h ∧ I2 x6 m A, ⟨q0, _, s, q1⟩, fun x6 m3 h ⟨h5, s, q3⟩ => (have hh := q2 x6 m3 h5 q3;
(bsel_pro hh (fun hh =>
(bsel_pro hh (fun hh =>
(match hh with | ⟨R7, q1, hh⟩ => ⟨fun  h => ∃ A, Sim Z A ((b1, [(.int .i64 p1), (.slice p2.a p2.len p2.cap), (.map p3)], 28) :: L) h ∧ R7 A, fun  h ⟨h18, s, q2⟩ => (have hh := q1 h18 q2;
(match hh with | ⟨m4, q1, q2⟩ => ⟨m4, q1, _, s, q2⟩)),
(onSome_pro hh fun a8 hh =>
(inB_pro hh fun hh =>
(aI_pro s hh fun n9 hh =>
(aI_pro s hh fun n10 hh =>
(aI_pro s hh fun n11 hh =>
(box_new s fun b12 _ s =>
(box_set (i := 0) s rfl rfl rfl fun _ s =>
(box_set (i := 0) s rfl rfl rfl fun _ s =>
(box_set (i := 0) s rfl rfl rfl fun _ s =>
(have s : Sim _ _ ((b12, [(.int .i64 n9), (.int .i64 n10), (.int .u64 n11)], 60) :: (b1, [(.int .i64 p1), (.slice p2.a p2.len p2.cap), (.map p3)], 28) :: L) _ := s;
(box_I (i := 0) s rfl rfl
(bsel_pro hh (fun hh =>
⟨_, (s.keep (.cons _ (.cons_cons _ (List.Sublist.refl _)))), hh⟩) (fun hh =>
(box_I (i := 0) s rfl rfl
(bsel_pro hh (fun hh =>
⟨_, (s.keep (.cons _ (.cons_cons _ (List.Sublist.refl _)))), hh⟩) (fun hh =>
(box_I (i := 0) s rfl rfl
(bsel_pro hh (fun hh =>
⟨_, (s.keep (.cons _ (.cons_cons _ (List.Sublist.refl _)))), hh⟩) (fun hh =>
(box_I (i := 0) s rfl rfl
(bsel_pro hh (fun hh =>
⟨_, (s.keep (.cons _ (.cons_cons _ (List.Sublist.refl _)))), hh⟩) (fun hh =>
(box_I (i := 0) s rfl rfl
(box_I (i := 0) s rfl rfl
(ram_RAM_Load_pro (fun n13 n14 _ _ s hh =>
(bsel_pro hh (fun hh =>
(hq _ _ _ (s.keep (.cons _ (.cons _ (List.Sublist.refl _)))) hh)) (fun hh =>
(box_I (i := 1) s rfl rfl
(box_S (i := 1) s rfl rfl
(box_M (i := 1) s rfl rfl
(demesneref01_Load_pro (fun n16 _ _ s hh =>
(bsel_pro hh (fun hh =>
(hq _ _ _ (s.keep (.cons _ (.cons _ (List.Sublist.refl _)))) hh)) (fun hh =>
⟨_, (s.keep (.cons _ (.cons_cons _ (List.Sublist.refl _)))), hh⟩))) s hh))))))) s hh)))))))))))))))))))))))))⟩)) (fun hh =>
(hq _ _ _ (s.keep (.cons _ (List.Sublist.refl _))) hh)))) (fun hh =>
(hq _ _ _ (s.keep (.cons _ (List.Sublist.refl _))) hh))))⟩))

/- demesne/demesnelaw04.WalkPlays -/
def demesnelaw04_WalkPlays_A (p0 : Sl) (p1 : Sl) (Q : Bool → AH → Prop) (h : AH) : Prop :=
(demesnelaw04_Lay_A p0 (fun pt1 n2 s3 mp4 h5 =>
(demesnelaw04_awake_A  (fun b7 h8 =>
(bsel (!b7)
(Q false h8)
(bsel pt1.isNone
(Q false h8)
(∃ I9 : Int → Nat → AH → Prop, (∃ m10, I9 (0 : Int) m10 h8) ∧ ∀ x13 : Int, ∀ m10 h12, I9 x13 m10 h12 → 
(bsel (decide (x13 < (Int.ofNat p1.len)))
(bsel (decide (x13 < (20 : Int)))
(onSome p1.a fun a14 =>
(inB x13 p1.len
(aI .i64 (Addr.add a14 (Int.toNat x13 * 5)) h12 fun n15 =>
(aI .u64 (Addr.add (Addr.add a14 (Int.toNat x13 * 5)) 1) h12 fun n16 =>
(aB (Addr.add (Addr.add a14 (Int.toNat x13 * 5)) 2) h12 fun b17 =>
(aB (Addr.add (Addr.add a14 (Int.toNat x13 * 5)) 3) h12 fun b18 =>
(aB (Addr.add (Addr.add a14 (Int.toNat x13 * 5)) 4) h12 fun b19 =>
(walk_Walk_A pt1 n15 n16 b17 b18 b19 (fun n21 b22 b23 b24 b25 b26 b27 n28 n29 n30 h31 =>
(demesneref04_Walk_A n2 s3 mp4 n15 n16 b17 b18 b19 (fun n34 b35 b36 b37 b38 b39 b40 n41 n42 h43 =>
(∃ R46 : Int → Int → AH → Prop, (∀ c47 : Int, ∀ c48 : Int, ∀ h49, R46 c47 c48 h49 → 
(bsel (n30 != n42)
(Q false h49)
(bsel (!((n28 == c47) && ((n29 == c48) && true)))
(Q false h49)
(bsel (!((n21 == n34) && (((b22 == b35) && ((b23 == b36) && ((b24 == b37) && true))) && ((b25 == b38) && ((b26 == b39) && ((b27 == b40) && true))))))
(Q false h49)
(demesnelaw04_Same_A pt1 n2 s3 mp4 p0 (fun n50 h51 =>
(bsel (n50 != (0 : Int))
(Q false h51)
(∃ m11, m11 < m10 ∧ I9 (IntKind.wrap .i64 (x13 + (1 : Int))) m11 h51))) h49))))) ∧
(bsel (n42 == (9 : Int))
(R46 n16 n41 h43)
(R46 (0 : Int) (0 : Int) h43)))) h31)) h12))))))))
(Q true h12))
(Q true h12)))))) h5)) h)
set_option maxHeartbeats 4000000 in
theorem demesnelaw04_WalkPlays_pro {Z : Nat → Prop} {A : AH} {L : Bx} {h : Hp} {p0 : Sl} {p1 : Sl} {Q : Bool → Hp → Prop} {Q2 : Bool → AH → Prop} (hq : ∀ r0 A h, Sim Z A L h → Q2 r0 A → Q r0 h) (s : Sim Z A L h) (hh : demesnelaw04_WalkPlays_A p0 p1 Q2 A) : demesnelaw04_WalkPlays p0 p1 Q h := by
  unfold demesnelaw04_WalkPlays_A at hh
  unfold demesnelaw04_WalkPlays demesnelaw04_WalkPlays_G
  exact (demesnelaw04_Lay_pro (fun pt1 n2 s3 mp4 _ _ s hh =>
(box_new s fun b6 _ s =>
(box_set (i := 0) s rfl rfl rfl fun _ s =>
(box_set (i := 0) s rfl rfl rfl fun _ s =>
(box_set (i := 0) s rfl rfl rfl fun _ s =>
(have s : Sim _ _ ((b6, [(.int .i64 n2), (.slice s3.a s3.len s3.cap), (.map mp4)], 28) :: L) _ := s;
(demesnelaw04_awake_pro (fun b7 _ _ s hh =>
(bsel_pro hh (fun hh =>
(hq _ _ _ (s.keep (.cons _ (List.Sublist.refl _))) hh)) (fun hh =>
(bsel_pro hh (fun hh =>
(hq _ _ _ (s.keep (.cons _ (List.Sublist.refl _))) hh)) (fun hh =>
(match hh with | ⟨I9, ⟨q0, q1⟩, q2⟩ => ⟨fun x13 m h => ∃ A, Sim Z A ((b6, [(.int .i64 n2), (.slice s3.a s3.len s3.cap), (.map mp4)], 28) :: L) h ∧ I9 x13 m A, ⟨q0, _, s, q1⟩, fun x13 m10 h ⟨h12, s, q3⟩ => (have hh := q2 x13 m10 h12 q3;
(bsel_pro hh (fun hh =>
(bsel_pro hh (fun hh =>
(onSome_pro hh fun a14 hh =>
(inB_pro hh fun hh =>
(aI_pro s hh fun n15 hh =>
(aI_pro s hh fun n16 hh =>
(aB_pro s hh fun b17 hh =>
(aB_pro s hh fun b18 hh =>
(aB_pro s hh fun b19 hh =>
(box_new s fun b20 _ s =>
(box_set (i := 0) s rfl rfl rfl fun _ s =>
(box_set (i := 0) s rfl rfl rfl fun _ s =>
(box_set (i := 0) s rfl rfl rfl fun _ s =>
(box_set (i := 0) s rfl rfl rfl fun _ s =>
(box_set (i := 0) s rfl rfl rfl fun _ s =>
(have s : Sim _ _ ((b20, [(.int .i64 n15), (.int .u64 n16), (.bool b17), (.bool b18), (.bool b19)], 36) :: (b6, [(.int .i64 n2), (.slice s3.a s3.len s3.cap), (.map mp4)], 28) :: L) _ := s;
(box_I (i := 0) s rfl rfl
(box_I (i := 0) s rfl rfl
(box_B (i := 0) s rfl rfl
(box_B (i := 0) s rfl rfl
(box_B (i := 0) s rfl rfl
(walk_Walk_pro (fun n21 b22 b23 b24 b25 b26 b27 n28 n29 n30 _ _ s hh =>
(box_new s fun b32 _ s =>
(box_new s fun b33 _ s =>
(box_set (i := 1) s rfl rfl rfl fun _ s =>
(box_set (i := 1) s rfl rfl rfl fun _ s =>
(box_set (i := 1) s rfl rfl rfl fun _ s =>
(box_set (i := 1) s rfl rfl rfl fun _ s =>
(box_set (i := 1) s rfl rfl rfl fun _ s =>
(box_set (i := 1) s rfl rfl rfl fun _ s =>
(box_set (i := 1) s rfl rfl rfl fun _ s =>
(have s : Sim _ _ ((b33, [(.int .u64 (0 : Int)), (.int .i64 (0 : Int))], 42) :: (b32, [(.int .i64 n21), (.bool b22), (.bool b23), (.bool b24), (.bool b25), (.bool b26), (.bool b27)], 40) :: (b20, [(.int .i64 n15), (.int .u64 n16), (.bool b17), (.bool b18), (.bool b19)], 36) :: (b6, [(.int .i64 n2), (.slice s3.a s3.len s3.cap), (.map mp4)], 28) :: L) _ := s;
(box_set (i := 0) s rfl rfl rfl fun _ s =>
(box_set (i := 0) s rfl rfl rfl fun _ s =>
(have s : Sim _ _ ((b33, [(.int .u64 n28), (.int .i64 n29)], 42) :: (b32, [(.int .i64 n21), (.bool b22), (.bool b23), (.bool b24), (.bool b25), (.bool b26), (.bool b27)], 40) :: (b20, [(.int .i64 n15), (.int .u64 n16), (.bool b17), (.bool b18), (.bool b19)], 36) :: (b6, [(.int .i64 n2), (.slice s3.a s3.len s3.cap), (.map mp4)], 28) :: L) _ := s;
(box_I (i := 3) s rfl rfl
(box_S (i := 3) s rfl rfl
(box_M (i := 3) s rfl rfl
(box_I (i := 2) s rfl rfl
(box_I (i := 2) s rfl rfl
(box_B (i := 2) s rfl rfl
(box_B (i := 2) s rfl rfl
(box_B (i := 2) s rfl rfl
(demesneref04_Walk_pro (fun n34 b35 b36 b37 b38 b39 b40 n41 n42 _ _ s hh =>
(box_new s fun b44 _ s =>
(box_set (i := 0) s rfl rfl rfl fun _ s =>
(box_set (i := 0) s rfl rfl rfl fun _ s =>
(box_set (i := 0) s rfl rfl rfl fun _ s =>
(box_set (i := 0) s rfl rfl rfl fun _ s =>
(box_set (i := 0) s rfl rfl rfl fun _ s =>
(box_set (i := 0) s rfl rfl rfl fun _ s =>
(box_set (i := 0) s rfl rfl rfl fun _ s =>
(have s : Sim _ _ ((b44, [(.int .i64 n34), (.bool b35), (.bool b36), (.bool b37), (.bool b38), (.bool b39), (.bool b40)], 47) :: (b33, [(.int .u64 n28), (.int .i64 n29)], 42) :: (b32, [(.int .i64 n21), (.bool b22), (.bool b23), (.bool b24), (.bool b25), (.bool b26), (.bool b27)], 40) :: (b20, [(.int .i64 n15), (.int .u64 n16), (.bool b17), (.bool b18), (.bool b19)], 36) :: (b6, [(.int .i64 n2), (.slice s3.a s3.len s3.cap), (.map mp4)], 28) :: L) _ := s;
(box_new s fun b45 _ s =>
(box_set (i := 0) s rfl rfl rfl fun _ s =>
(box_set (i := 0) s rfl rfl rfl fun _ s =>
(have s : Sim _ _ ((b45, [(.int .u64 (0 : Int)), (.int .i64 (0 : Int))], 42) :: (b44, [(.int .i64 n34), (.bool b35), (.bool b36), (.bool b37), (.bool b38), (.bool b39), (.bool b40)], 47) :: (b33, [(.int .u64 n28), (.int .i64 n29)], 42) :: (b32, [(.int .i64 n21), (.bool b22), (.bool b23), (.bool b24), (.bool b25), (.bool b26), (.bool b27)], 40) :: (b20, [(.int .i64 n15), (.int .u64 n16), (.bool b17), (.bool b18), (.bool b19)], 36) :: (b6, [(.int .i64 n2), (.slice s3.a s3.len s3.cap), (.map mp4)], 28) :: L) _ := s;
(match hh with | ⟨R46, q1, hh⟩ => ⟨fun  h => ∃ c47 : Int, ∃ c48 : Int, ∃ A, Sim Z A ((b45, [(.int .u64 c47), (.int .i64 c48)], 42) :: (b44, [(.int .i64 n34), (.bool b35), (.bool b36), (.bool b37), (.bool b38), (.bool b39), (.bool b40)], 47) :: (b33, [(.int .u64 n28), (.int .i64 n29)], 42) :: (b32, [(.int .i64 n21), (.bool b22), (.bool b23), (.bool b24), (.bool b25), (.bool b26), (.bool b27)], 40) :: (b6, [(.int .i64 n2), (.slice s3.a s3.len s3.cap), (.map mp4)], 28) :: L) h ∧ R46 c47 c48 A, fun  h ⟨c47, c48, h49, s, q2⟩ => (have hh := q1 c47 c48 h49 q2;
(bsel_pro hh (fun hh =>
(hq _ _ _ (s.keep (.cons _ (.cons _ (.cons _ (.cons _ (.cons _ (List.Sublist.refl _))))))) hh)) (fun hh =>
(box_I (i := 2) s rfl rfl
(box_I (i := 2) s rfl rfl
(box_I (i := 0) s rfl rfl
(box_I (i := 0) s rfl rfl
(bsel_pro hh (fun hh =>
(hq _ _ _ (s.keep (.cons _ (.cons _ (.cons _ (.cons _ (.cons _ (List.Sublist.refl _))))))) hh)) (fun hh =>
(box_I (i := 3) s rfl rfl
(box_B (i := 3) s rfl rfl
(box_B (i := 3) s rfl rfl
(box_B (i := 3) s rfl rfl
(box_B (i := 3) s rfl rfl
(box_B (i := 3) s rfl rfl
(box_B (i := 3) s rfl rfl
(box_I (i := 1) s rfl rfl
(box_B (i := 1) s rfl rfl
(box_B (i := 1) s rfl rfl
(box_B (i := 1) s rfl rfl
(box_B (i := 1) s rfl rfl
(box_B (i := 1) s rfl rfl
(box_B (i := 1) s rfl rfl
(bsel_pro hh (fun hh =>
(hq _ _ _ (s.keep (.cons _ (.cons _ (.cons _ (.cons _ (.cons _ (List.Sublist.refl _))))))) hh)) (fun hh =>
(box_I (i := 4) s rfl rfl
(box_S (i := 4) s rfl rfl
(box_M (i := 4) s rfl rfl
(demesnelaw04_Same_pro (fun n50 _ _ s hh =>
(bsel_pro hh (fun hh =>
(hq _ _ _ (s.keep (.cons _ (.cons _ (.cons _ (.cons _ (.cons _ (List.Sublist.refl _))))))) hh)) (fun hh =>
(match hh with | ⟨m11, q1, q2⟩ => ⟨m11, q1, _, (s.keep (.cons _ (.cons _ (.cons _ (.cons _ (.cons_cons _ (List.Sublist.refl _))))))), q2⟩)))) s hh))))))))))))))))))))))))))))),
(bsel_pro hh (fun hh =>
(box_I (i := 4) s rfl rfl
(box_set (i := 0) s rfl rfl rfl fun _ s =>
(box_set (i := 0) s rfl rfl rfl fun _ s =>
(have s : Sim _ _ ((b45, [(.int .u64 n16), (.int .i64 n41)], 42) :: (b44, [(.int .i64 n34), (.bool b35), (.bool b36), (.bool b37), (.bool b38), (.bool b39), (.bool b40)], 47) :: (b33, [(.int .u64 n28), (.int .i64 n29)], 42) :: (b32, [(.int .i64 n21), (.bool b22), (.bool b23), (.bool b24), (.bool b25), (.bool b26), (.bool b27)], 40) :: (b20, [(.int .i64 n15), (.int .u64 n16), (.bool b17), (.bool b18), (.bool b19)], 36) :: (b6, [(.int .i64 n2), (.slice s3.a s3.len s3.cap), (.map mp4)], 28) :: L) _ := s;
⟨n16, n41, _, (s.keep (.cons_cons _ (.cons_cons _ (.cons_cons _ (.cons_cons _ (.cons _ (.cons_cons _ (List.Sublist.refl _)))))))), hh⟩))))) (fun hh =>
⟨(0 : Int), (0 : Int), _, (s.keep (.cons_cons _ (.cons_cons _ (.cons_cons _ (.cons_cons _ (.cons _ (.cons_cons _ (List.Sublist.refl _)))))))), hh⟩))⟩))))))))))))))) s hh))))))))))))))))))))))) s hh))))))))))))))))))))) (fun hh =>
(hq _ _ _ (s.keep (.cons _ (List.Sublist.refl _))) hh)))) (fun hh =>
(hq _ _ _ (s.keep (.cons _ (List.Sublist.refl _))) hh))))⟩)))))) s hh))))))) s hh)

/- demesne/demesnelaw04.WalkMays -/
def demesnelaw04_WalkMays_A (p0 : Bool) (p1 : Bool) (p2 : Bool) (p3 : Bool) (p4 : Bool) (p5 : Bool) (Q : Bool → AH → Prop) (h : AH) : Prop :=
(∃ S3 : AP, S3 h ∧
(demesnelaw04_awake_A  (fun b4 h5 =>
(S3 h5 ∧
(bsel b4
(S3 h5 ∧ (∀ h15 : AH, S3 h15 → (((.agg #[(.bool p0), (.bool p1), (.bool p2)]) : Value) = (.agg #[(.bool p0), (.bool p1), (.bool p2)]))) ∧
(S3 h5 ∧ (∀ h14 : AH, S3 h14 → (((.agg #[(.bool p3), (.bool p4), (.bool p5)]) : Value) = (.agg #[(.bool p3), (.bool p4), (.bool p5)]))) ∧
(S3 h5 ∧ (∀ h13 : AH, S3 h13 → (((.bool p0) : Value) = (.bool p0))) ∧
(S3 h5 ∧ (∀ h12 : AH, S3 h12 → (((.bool p1) : Value) = (.bool p1))) ∧
(S3 h5 ∧ (∀ h11 : AH, S3 h11 → (((.bool p2) : Value) = (.bool p2))) ∧
(S3 h5 ∧ (∀ h10 : AH, S3 h10 → (((.agg #[(.bool p3), (.bool p4), (.bool p5)]) : Value) = (.agg #[(.bool p3), (.bool p4), (.bool p5)]))) ∧
(walk_May_A p0 p1 p2 p3 p4 p5 (fun b6 h7 =>
(S3 h7 ∧
(demesneref04_May_A p0 p1 p2 p3 p4 p5 (fun b8 h9 =>
(S3 h9 ∧
(Q (b6 == b8) h9))) h7))) h5)))))))
(S3 h5 ∧
(S3 h5 ∧
(Q false h5)))))) h))
set_option maxHeartbeats 4000000 in
theorem demesnelaw04_WalkMays_pro {Z : Nat → Prop} {A : AH} {L : Bx} {h : Hp} {p0 : Bool} {p1 : Bool} {p2 : Bool} {p3 : Bool} {p4 : Bool} {p5 : Bool} {Q : Bool → Hp → Prop} {Q2 : Bool → AH → Prop} (hq : ∀ r0 A h, Sim Z A L h → Q2 r0 A → Q r0 h) (s : Sim Z A L h) (hh : demesnelaw04_WalkMays_A p0 p1 p2 p3 p4 p5 Q2 A) : demesnelaw04_WalkMays p0 p1 p2 p3 p4 p5 Q h := by
  unfold demesnelaw04_WalkMays_A at hh
  unfold demesnelaw04_WalkMays demesnelaw04_WalkMays_G
  exact (box_new s fun b1 _ s =>
(box_new s fun b2 _ s =>
(match hh with | ⟨S3, q0, hh⟩ => ⟨fun h => ∃ A, Sim Z A ((b2, [(.bool p3), (.bool p4), (.bool p5)], 34) :: (b1, [(.bool p0), (.bool p1), (.bool p2)], 38) :: L) h ∧ S3 A, ⟨_, s, q0⟩,
(demesnelaw04_awake_pro (fun b4 _ _ s hh =>
(match hh with | ⟨q1, hh⟩ => ⟨⟨_, s, q1⟩,
(bsel_pro hh (fun hh =>
(box_B (i := 1) s rfl rfl
(box_B (i := 1) s rfl rfl
(box_B (i := 1) s rfl rfl
(match hh with | ⟨q1, q2, hh⟩ => ⟨⟨_, s, q1⟩, fun _ ⟨h15, s, q1⟩ => (have hh := q2 h15 q1;
(box_B (i := 1) s rfl rfl
(box_B (i := 1) s rfl rfl
(box_B (i := 1) s rfl rfl
hh)))),
(box_B (i := 0) s rfl rfl
(box_B (i := 0) s rfl rfl
(box_B (i := 0) s rfl rfl
(match hh with | ⟨q1, q2, hh⟩ => ⟨⟨_, s, q1⟩, fun _ ⟨h14, s, q1⟩ => (have hh := q2 h14 q1;
(box_B (i := 0) s rfl rfl
(box_B (i := 0) s rfl rfl
(box_B (i := 0) s rfl rfl
hh)))),
(box_B (i := 1) s rfl rfl
(match hh with | ⟨q1, q2, hh⟩ => ⟨⟨_, s, q1⟩, fun _ ⟨h13, s, q1⟩ => (have hh := q2 h13 q1;
(box_B (i := 1) s rfl rfl
hh)),
(box_B (i := 1) s rfl rfl
(match hh with | ⟨q1, q2, hh⟩ => ⟨⟨_, s, q1⟩, fun _ ⟨h12, s, q1⟩ => (have hh := q2 h12 q1;
(box_B (i := 1) s rfl rfl
hh)),
(box_B (i := 1) s rfl rfl
(match hh with | ⟨q1, q2, hh⟩ => ⟨⟨_, s, q1⟩, fun _ ⟨h11, s, q1⟩ => (have hh := q2 h11 q1;
(box_B (i := 1) s rfl rfl
hh)),
(box_B (i := 0) s rfl rfl
(box_B (i := 0) s rfl rfl
(box_B (i := 0) s rfl rfl
(match hh with | ⟨q1, q2, hh⟩ => ⟨⟨_, s, q1⟩, fun _ ⟨h10, s, q1⟩ => (have hh := q2 h10 q1;
(box_B (i := 0) s rfl rfl
(box_B (i := 0) s rfl rfl
(box_B (i := 0) s rfl rfl
hh)))),
(walk_May_pro (fun b6 _ _ s hh =>
(match hh with | ⟨q1, hh⟩ => ⟨⟨_, s, q1⟩,
(demesneref04_May_pro (fun b8 _ _ s hh =>
(match hh with | ⟨q1, hh⟩ => ⟨⟨_, s, q1⟩,
(hq _ _ _ (s.keep (.cons _ (.cons _ (List.Sublist.refl _)))) hh)⟩)) s hh)⟩)) s hh)⟩))))⟩))⟩))⟩))⟩))))⟩))))) (fun hh =>
(match hh with | ⟨q1, hh⟩ => ⟨⟨_, s, q1⟩,
(match hh with | ⟨q1, hh⟩ => ⟨⟨_, s, q1⟩,
(hq _ _ _ (s.keep (.cons _ (.cons _ (List.Sublist.refl _)))) hh)⟩)⟩)))⟩)) s hh)⟩)))

/- demesne/demesnelaw04.WalkAgain -/
def demesnelaw04_WalkAgain_A (p0 : Sl) (p1 : Int) (p2 : Int) (p3 : Bool) (p4 : Bool) (p5 : Bool) (p6 : Bool) (p7 : Bool) (p8 : Bool) (Q : Bool → AH → Prop) (h : AH) : Prop :=
(demesnelaw04_Lay_A p0 (fun pt3 n4 s5 mp6 h7 =>
(bsel pt3.isNone
(Q false h7)
(walk_Walk_A pt3 p1 p2 p3 p4 p5 (fun n9 b10 b11 b12 b13 b14 b15 n16 n17 n18 h19 =>
(walk_Walk_A pt3 p1 p2 p3 p4 p5 (fun n22 b23 b24 b25 b26 b27 b28 n29 n30 n31 h32 =>
(bsel (n18 != n31)
(Q false h32)
(bsel (!((n9 == n22) && (((b10 == b23) && ((b11 == b24) && ((b12 == b25) && true))) && ((b13 == b26) && ((b14 == b27) && ((b15 == b28) && true))))))
(Q false h32)
(∃ R35 : Option Addr → AH → Prop, (∀ pt76 : Option Addr, ∀ h77, R35 pt76 h77 → 
(onSome pt76 fun a78 =>
(aB a78 h77 fun b79 =>
(aB (Addr.add a78 1) h77 fun b80 =>
(aB (Addr.add a78 2) h77 fun b81 =>
(walk_Walk_A pt3 p1 p2 b79 b80 b81 (fun n82 b83 b84 b85 b86 b87 b88 n89 n90 n91 h92 =>
(bsel (n18 != (0 : Int))
(demesnelaw04_awake_A  (fun b95 h96 =>
(bsel b95
(bsel (n91 == n18)
(Q ((n9 == (0 : Int)) && (((b10 == false) && ((b11 == false) && ((b12 == false) && true))) && ((b13 == false) && ((b14 == false) && ((b15 == false) && true))))) h96)
(Q false h96))
(Q false h96))) h92)
(bsel (n91 != (0 : Int))
(demesnelaw04_awake_A  (fun b97 h98 =>
(bsel b97
(bsel (n91 == (9 : Int))
(onSome pt76 fun a99 =>
(aB a99 h98 fun b100 =>
(aB (Addr.add a99 1) h98 fun b101 =>
(aB (Addr.add a99 2) h98 fun b102 =>
(walk_May_A b10 b11 b12 b100 b101 b102 (fun b103 h104 =>
(Q (!b103) h104)) h98)))))
(Q false h98))
(Q false h98))) h92)
(demesnelaw04_awake_A  (fun b105 h106 =>
(bsel b105
(bsel (n82 == n9)
(bsel ((b83 == b10) && ((b84 == b11) && ((b85 == b12) && true)))
(bsel (b87 == b14)
(walk_May_A b10 b11 b12 p3 p4 p5 (fun b107 h108 =>
(Q b107 h108)) h106)
(Q false h106))
(Q false h106))
(Q false h106))
(Q false h106))) h92)))) h77)))))) ∧
(bsel p3
(bsel p4
(bsel p5
(newA h32 (.cells #[(.bool false), (.bool false), (.bool false)] 34) fun b36 h37 =>
(aC (Addr.mk b36 0 none) (.bool true) h37 fun h38 =>
(aC (Addr.add (Addr.mk b36 0 none) 1) (.bool true) h38 fun h39 =>
(aC (Addr.add (Addr.mk b36 0 none) 2) (.bool true) h39 fun h40 =>
(R35 (some (Addr.mk b36 0 none)) h40)))))
(newA h32 (.cells #[(.bool false), (.bool false), (.bool false)] 34) fun b41 h42 =>
(aC (Addr.mk b41 0 none) (.bool true) h42 fun h43 =>
(aC (Addr.add (Addr.mk b41 0 none) 1) (.bool true) h43 fun h44 =>
(aC (Addr.add (Addr.mk b41 0 none) 2) (.bool p8) h44 fun h45 =>
(R35 (some (Addr.mk b41 0 none)) h45))))))
(bsel p5
(newA h32 (.cells #[(.bool false), (.bool false), (.bool false)] 34) fun b46 h47 =>
(aC (Addr.mk b46 0 none) (.bool true) h47 fun h48 =>
(aC (Addr.add (Addr.mk b46 0 none) 1) (.bool p7) h48 fun h49 =>
(aC (Addr.add (Addr.mk b46 0 none) 2) (.bool true) h49 fun h50 =>
(R35 (some (Addr.mk b46 0 none)) h50)))))
(newA h32 (.cells #[(.bool false), (.bool false), (.bool false)] 34) fun b51 h52 =>
(aC (Addr.mk b51 0 none) (.bool true) h52 fun h53 =>
(aC (Addr.add (Addr.mk b51 0 none) 1) (.bool p7) h53 fun h54 =>
(aC (Addr.add (Addr.mk b51 0 none) 2) (.bool p8) h54 fun h55 =>
(R35 (some (Addr.mk b51 0 none)) h55)))))))
(bsel p4
(bsel p5
(newA h32 (.cells #[(.bool false), (.bool false), (.bool false)] 34) fun b56 h57 =>
(aC (Addr.mk b56 0 none) (.bool p6) h57 fun h58 =>
(aC (Addr.add (Addr.mk b56 0 none) 1) (.bool true) h58 fun h59 =>
(aC (Addr.add (Addr.mk b56 0 none) 2) (.bool true) h59 fun h60 =>
(R35 (some (Addr.mk b56 0 none)) h60)))))
(newA h32 (.cells #[(.bool false), (.bool false), (.bool false)] 34) fun b61 h62 =>
(aC (Addr.mk b61 0 none) (.bool p6) h62 fun h63 =>
(aC (Addr.add (Addr.mk b61 0 none) 1) (.bool true) h63 fun h64 =>
(aC (Addr.add (Addr.mk b61 0 none) 2) (.bool p8) h64 fun h65 =>
(R35 (some (Addr.mk b61 0 none)) h65))))))
(bsel p5
(newA h32 (.cells #[(.bool false), (.bool false), (.bool false)] 34) fun b66 h67 =>
(aC (Addr.mk b66 0 none) (.bool p6) h67 fun h68 =>
(aC (Addr.add (Addr.mk b66 0 none) 1) (.bool p7) h68 fun h69 =>
(aC (Addr.add (Addr.mk b66 0 none) 2) (.bool true) h69 fun h70 =>
(R35 (some (Addr.mk b66 0 none)) h70)))))
(newA h32 (.cells #[(.bool false), (.bool false), (.bool false)] 34) fun b71 h72 =>
(aC (Addr.mk b71 0 none) (.bool p6) h72 fun h73 =>
(aC (Addr.add (Addr.mk b71 0 none) 1) (.bool p7) h73 fun h74 =>
(aC (Addr.add (Addr.mk b71 0 none) 2) (.bool p8) h74 fun h75 =>
(R35 (some (Addr.mk b71 0 none)) h75)))))))))))) h19)) h7))) h)
set_option maxHeartbeats 4000000 in
theorem demesnelaw04_WalkAgain_pro {Z : Nat → Prop} {A : AH} {L : Bx} {h : Hp} {p0 : Sl} {p1 : Int} {p2 : Int} {p3 : Bool} {p4 : Bool} {p5 : Bool} {p6 : Bool} {p7 : Bool} {p8 : Bool} {Q : Bool → Hp → Prop} {Q2 : Bool → AH → Prop} (hq : ∀ r0 A h, Sim Z A L h → Q2 r0 A → Q r0 h) (s : Sim Z A L h) (hh : demesnelaw04_WalkAgain_A p0 p1 p2 p3 p4 p5 p6 p7 p8 Q2 A) : demesnelaw04_WalkAgain p0 p1 p2 p3 p4 p5 p6 p7 p8 Q h := by
  unfold demesnelaw04_WalkAgain_A at hh
  unfold demesnelaw04_WalkAgain demesnelaw04_WalkAgain_G
  exact (box_new s fun b1 _ s =>
(box_new s fun b2 _ s =>
(demesnelaw04_Lay_pro (fun pt3 n4 s5 mp6 _ _ s hh =>
(box_new s fun b8 _ s =>
(box_set (i := 0) s rfl rfl rfl fun _ s =>
(box_set (i := 0) s rfl rfl rfl fun _ s =>
(box_set (i := 0) s rfl rfl rfl fun _ s =>
(have s : Sim _ _ ((b8, [(.int .i64 n4), (.slice s5.a s5.len s5.cap), (.map mp6)], 28) :: (b2, [(.bool p6), (.bool p7), (.bool p8)], 34) :: (b1, [(.int .i64 p1), (.int .u64 p2), (.bool p3), (.bool p4), (.bool p5)], 36) :: L) _ := s;
(bsel_pro hh (fun hh =>
(hq _ _ _ (s.keep (.cons _ (.cons _ (.cons _ (List.Sublist.refl _))))) hh)) (fun hh =>
(box_I (i := 2) s rfl rfl
(box_I (i := 2) s rfl rfl
(box_B (i := 2) s rfl rfl
(box_B (i := 2) s rfl rfl
(box_B (i := 2) s rfl rfl
(walk_Walk_pro (fun n9 b10 b11 b12 b13 b14 b15 n16 n17 n18 _ _ s hh =>
(box_new s fun b20 _ s =>
(box_new s fun b21 _ s =>
(box_set (i := 1) s rfl rfl rfl fun _ s =>
(box_set (i := 1) s rfl rfl rfl fun _ s =>
(box_set (i := 1) s rfl rfl rfl fun _ s =>
(box_set (i := 1) s rfl rfl rfl fun _ s =>
(box_set (i := 1) s rfl rfl rfl fun _ s =>
(box_set (i := 1) s rfl rfl rfl fun _ s =>
(box_set (i := 1) s rfl rfl rfl fun _ s =>
(have s : Sim _ _ ((b21, [(.int .u64 (0 : Int)), (.int .i64 (0 : Int))], 42) :: (b20, [(.int .i64 n9), (.bool b10), (.bool b11), (.bool b12), (.bool b13), (.bool b14), (.bool b15)], 40) :: (b8, [(.int .i64 n4), (.slice s5.a s5.len s5.cap), (.map mp6)], 28) :: (b2, [(.bool p6), (.bool p7), (.bool p8)], 34) :: (b1, [(.int .i64 p1), (.int .u64 p2), (.bool p3), (.bool p4), (.bool p5)], 36) :: L) _ := s;
(box_set (i := 0) s rfl rfl rfl fun _ s =>
(box_set (i := 0) s rfl rfl rfl fun _ s =>
(have s : Sim _ _ ((b21, [(.int .u64 n16), (.int .i64 n17)], 42) :: (b20, [(.int .i64 n9), (.bool b10), (.bool b11), (.bool b12), (.bool b13), (.bool b14), (.bool b15)], 40) :: (b8, [(.int .i64 n4), (.slice s5.a s5.len s5.cap), (.map mp6)], 28) :: (b2, [(.bool p6), (.bool p7), (.bool p8)], 34) :: (b1, [(.int .i64 p1), (.int .u64 p2), (.bool p3), (.bool p4), (.bool p5)], 36) :: L) _ := s;
(box_I (i := 4) s rfl rfl
(box_I (i := 4) s rfl rfl
(box_B (i := 4) s rfl rfl
(box_B (i := 4) s rfl rfl
(box_B (i := 4) s rfl rfl
(walk_Walk_pro (fun n22 b23 b24 b25 b26 b27 b28 n29 n30 n31 _ _ s hh =>
(box_new s fun b33 _ s =>
(box_new s fun b34 _ s =>
(box_set (i := 1) s rfl rfl rfl fun _ s =>
(box_set (i := 1) s rfl rfl rfl fun _ s =>
(box_set (i := 1) s rfl rfl rfl fun _ s =>
(box_set (i := 1) s rfl rfl rfl fun _ s =>
(box_set (i := 1) s rfl rfl rfl fun _ s =>
(box_set (i := 1) s rfl rfl rfl fun _ s =>
(box_set (i := 1) s rfl rfl rfl fun _ s =>
(have s : Sim _ _ ((b34, [(.int .u64 (0 : Int)), (.int .i64 (0 : Int))], 42) :: (b33, [(.int .i64 n22), (.bool b23), (.bool b24), (.bool b25), (.bool b26), (.bool b27), (.bool b28)], 40) :: (b21, [(.int .u64 n16), (.int .i64 n17)], 42) :: (b20, [(.int .i64 n9), (.bool b10), (.bool b11), (.bool b12), (.bool b13), (.bool b14), (.bool b15)], 40) :: (b8, [(.int .i64 n4), (.slice s5.a s5.len s5.cap), (.map mp6)], 28) :: (b2, [(.bool p6), (.bool p7), (.bool p8)], 34) :: (b1, [(.int .i64 p1), (.int .u64 p2), (.bool p3), (.bool p4), (.bool p5)], 36) :: L) _ := s;
(box_set (i := 0) s rfl rfl rfl fun _ s =>
(box_set (i := 0) s rfl rfl rfl fun _ s =>
(have s : Sim _ _ ((b34, [(.int .u64 n29), (.int .i64 n30)], 42) :: (b33, [(.int .i64 n22), (.bool b23), (.bool b24), (.bool b25), (.bool b26), (.bool b27), (.bool b28)], 40) :: (b21, [(.int .u64 n16), (.int .i64 n17)], 42) :: (b20, [(.int .i64 n9), (.bool b10), (.bool b11), (.bool b12), (.bool b13), (.bool b14), (.bool b15)], 40) :: (b8, [(.int .i64 n4), (.slice s5.a s5.len s5.cap), (.map mp6)], 28) :: (b2, [(.bool p6), (.bool p7), (.bool p8)], 34) :: (b1, [(.int .i64 p1), (.int .u64 p2), (.bool p3), (.bool p4), (.bool p5)], 36) :: L) _ := s;
(bsel_pro hh (fun hh =>
(hq _ _ _ (s.keep (.cons _ (.cons _ (.cons _ (.cons _ (.cons _ (.cons _ (.cons _ (List.Sublist.refl _))))))))) hh)) (fun hh =>
(box_I (i := 3) s rfl rfl
(box_B (i := 3) s rfl rfl
(box_B (i := 3) s rfl rfl
(box_B (i := 3) s rfl rfl
(box_B (i := 3) s rfl rfl
(box_B (i := 3) s rfl rfl
(box_B (i := 3) s rfl rfl
(box_I (i := 1) s rfl rfl
(box_B (i := 1) s rfl rfl
(box_B (i := 1) s rfl rfl
(box_B (i := 1) s rfl rfl
(box_B (i := 1) s rfl rfl
(box_B (i := 1) s rfl rfl
(box_B (i := 1) s rfl rfl
(bsel_pro hh (fun hh =>
(hq _ _ _ (s.keep (.cons _ (.cons _ (.cons _ (.cons _ (.cons _ (.cons _ (.cons _ (List.Sublist.refl _))))))))) hh)) (fun hh =>
(match hh with | ⟨R35, q1, hh⟩ => ⟨fun pt76 h => ∃ A, Sim Z A ((b20, [(.int .i64 n9), (.bool b10), (.bool b11), (.bool b12), (.bool b13), (.bool b14), (.bool b15)], 40) :: (b1, [(.int .i64 p1), (.int .u64 p2), (.bool p3), (.bool p4), (.bool p5)], 36) :: L) h ∧ R35 pt76 A, fun pt76 h ⟨h77, s, q2⟩ => (have hh := q1 pt76 h77 q2;
(box_I (i := 1) s rfl rfl
(box_I (i := 1) s rfl rfl
(onSome_pro hh fun a78 hh =>
(aB_pro s hh fun b79 hh =>
(aB_pro s hh fun b80 hh =>
(aB_pro s hh fun b81 hh =>
(walk_Walk_pro (fun n82 b83 b84 b85 b86 b87 b88 n89 n90 n91 _ _ s hh =>
(box_new s fun b93 _ s =>
(box_new s fun b94 _ s =>
(box_set (i := 1) s rfl rfl rfl fun _ s =>
(box_set (i := 1) s rfl rfl rfl fun _ s =>
(box_set (i := 1) s rfl rfl rfl fun _ s =>
(box_set (i := 1) s rfl rfl rfl fun _ s =>
(box_set (i := 1) s rfl rfl rfl fun _ s =>
(box_set (i := 1) s rfl rfl rfl fun _ s =>
(box_set (i := 1) s rfl rfl rfl fun _ s =>
(have s : Sim _ _ ((b94, [(.int .u64 (0 : Int)), (.int .i64 (0 : Int))], 42) :: (b93, [(.int .i64 n82), (.bool b83), (.bool b84), (.bool b85), (.bool b86), (.bool b87), (.bool b88)], 40) :: (b20, [(.int .i64 n9), (.bool b10), (.bool b11), (.bool b12), (.bool b13), (.bool b14), (.bool b15)], 40) :: (b1, [(.int .i64 p1), (.int .u64 p2), (.bool p3), (.bool p4), (.bool p5)], 36) :: L) _ := s;
(box_set (i := 0) s rfl rfl rfl fun _ s =>
(box_set (i := 0) s rfl rfl rfl fun _ s =>
(have s : Sim _ _ ((b94, [(.int .u64 n89), (.int .i64 n90)], 42) :: (b93, [(.int .i64 n82), (.bool b83), (.bool b84), (.bool b85), (.bool b86), (.bool b87), (.bool b88)], 40) :: (b20, [(.int .i64 n9), (.bool b10), (.bool b11), (.bool b12), (.bool b13), (.bool b14), (.bool b15)], 40) :: (b1, [(.int .i64 p1), (.int .u64 p2), (.bool p3), (.bool p4), (.bool p5)], 36) :: L) _ := s;
(bsel_pro hh (fun hh =>
(demesnelaw04_awake_pro (fun b95 _ _ s hh =>
(bsel_pro hh (fun hh =>
(bsel_pro hh (fun hh =>
(box_I (i := 2) s rfl rfl
(box_B (i := 2) s rfl rfl
(box_B (i := 2) s rfl rfl
(box_B (i := 2) s rfl rfl
(box_B (i := 2) s rfl rfl
(box_B (i := 2) s rfl rfl
(box_B (i := 2) s rfl rfl
(hq _ _ _ (s.keep (.cons _ (.cons _ (.cons _ (.cons _ (List.Sublist.refl _)))))) hh))))))))) (fun hh =>
(hq _ _ _ (s.keep (.cons _ (.cons _ (.cons _ (.cons _ (List.Sublist.refl _)))))) hh)))) (fun hh =>
(hq _ _ _ (s.keep (.cons _ (.cons _ (.cons _ (.cons _ (List.Sublist.refl _)))))) hh)))) s hh)) (fun hh =>
(bsel_pro hh (fun hh =>
(demesnelaw04_awake_pro (fun b97 _ _ s hh =>
(bsel_pro hh (fun hh =>
(bsel_pro hh (fun hh =>
(box_B (i := 2) s rfl rfl
(box_B (i := 2) s rfl rfl
(box_B (i := 2) s rfl rfl
(onSome_pro hh fun a99 hh =>
(aB_pro s hh fun b100 hh =>
(aB_pro s hh fun b101 hh =>
(aB_pro s hh fun b102 hh =>
(walk_May_pro (fun b103 _ _ s hh =>
(hq _ _ _ (s.keep (.cons _ (.cons _ (.cons _ (.cons _ (List.Sublist.refl _)))))) hh)) s hh))))))))) (fun hh =>
(hq _ _ _ (s.keep (.cons _ (.cons _ (.cons _ (.cons _ (List.Sublist.refl _)))))) hh)))) (fun hh =>
(hq _ _ _ (s.keep (.cons _ (.cons _ (.cons _ (.cons _ (List.Sublist.refl _)))))) hh)))) s hh)) (fun hh =>
(demesnelaw04_awake_pro (fun b105 _ _ s hh =>
(bsel_pro hh (fun hh =>
(box_I (i := 1) s rfl rfl
(box_I (i := 2) s rfl rfl
(bsel_pro hh (fun hh =>
(box_B (i := 1) s rfl rfl
(box_B (i := 1) s rfl rfl
(box_B (i := 1) s rfl rfl
(box_B (i := 2) s rfl rfl
(box_B (i := 2) s rfl rfl
(box_B (i := 2) s rfl rfl
(bsel_pro hh (fun hh =>
(box_B (i := 1) s rfl rfl
(box_B (i := 2) s rfl rfl
(bsel_pro hh (fun hh =>
(box_B (i := 2) s rfl rfl
(box_B (i := 2) s rfl rfl
(box_B (i := 2) s rfl rfl
(box_B (i := 3) s rfl rfl
(box_B (i := 3) s rfl rfl
(box_B (i := 3) s rfl rfl
(walk_May_pro (fun b107 _ _ s hh =>
(hq _ _ _ (s.keep (.cons _ (.cons _ (.cons _ (.cons _ (List.Sublist.refl _)))))) hh)) s hh)))))))) (fun hh =>
(hq _ _ _ (s.keep (.cons _ (.cons _ (.cons _ (.cons _ (List.Sublist.refl _)))))) hh)))))) (fun hh =>
(hq _ _ _ (s.keep (.cons _ (.cons _ (.cons _ (.cons _ (List.Sublist.refl _)))))) hh)))))))))) (fun hh =>
(hq _ _ _ (s.keep (.cons _ (.cons _ (.cons _ (.cons _ (List.Sublist.refl _)))))) hh)))))) (fun hh =>
(hq _ _ _ (s.keep (.cons _ (.cons _ (.cons _ (.cons _ (List.Sublist.refl _)))))) hh)))) s hh))))))))))))))))))) s hh)))))))),
(box_B (i := 6) s rfl rfl
(bsel_pro hh (fun hh =>
(box_B (i := 6) s rfl rfl
(bsel_pro hh (fun hh =>
(box_B (i := 6) s rfl rfl
(bsel_pro hh (fun hh =>
(newA_pro s (by first | exact rfl | exact True.intro) hh fun b36 _ _ s hh =>
(aC_pro s hh fun _ _ s hh =>
(aC_pro s hh fun _ _ s hh =>
(aC_pro s hh fun _ _ s hh =>
⟨_, (s.keep (.cons _ (.cons _ (.cons _ (.cons_cons _ (.cons _ (.cons _ (.cons_cons _ (List.Sublist.refl _))))))))), hh⟩))))) (fun hh =>
(box_B (i := 5) s rfl rfl
(newA_pro s (by first | exact rfl | exact True.intro) hh fun b41 _ _ s hh =>
(aC_pro s hh fun _ _ s hh =>
(aC_pro s hh fun _ _ s hh =>
(aC_pro s hh fun _ _ s hh =>
⟨_, (s.keep (.cons _ (.cons _ (.cons _ (.cons_cons _ (.cons _ (.cons _ (.cons_cons _ (List.Sublist.refl _))))))))), hh⟩))))))))) (fun hh =>
(box_B (i := 5) s rfl rfl
(box_B (i := 6) s rfl rfl
(bsel_pro hh (fun hh =>
(newA_pro s (by first | exact rfl | exact True.intro) hh fun b46 _ _ s hh =>
(aC_pro s hh fun _ _ s hh =>
(aC_pro s hh fun _ _ s hh =>
(aC_pro s hh fun _ _ s hh =>
⟨_, (s.keep (.cons _ (.cons _ (.cons _ (.cons_cons _ (.cons _ (.cons _ (.cons_cons _ (List.Sublist.refl _))))))))), hh⟩))))) (fun hh =>
(box_B (i := 5) s rfl rfl
(newA_pro s (by first | exact rfl | exact True.intro) hh fun b51 _ _ s hh =>
(aC_pro s hh fun _ _ s hh =>
(aC_pro s hh fun _ _ s hh =>
(aC_pro s hh fun _ _ s hh =>
⟨_, (s.keep (.cons _ (.cons _ (.cons _ (.cons_cons _ (.cons _ (.cons _ (.cons_cons _ (List.Sublist.refl _))))))))), hh⟩))))))))))))) (fun hh =>
(box_B (i := 5) s rfl rfl
(box_B (i := 6) s rfl rfl
(bsel_pro hh (fun hh =>
(box_B (i := 6) s rfl rfl
(bsel_pro hh (fun hh =>
(newA_pro s (by first | exact rfl | exact True.intro) hh fun b56 _ _ s hh =>
(aC_pro s hh fun _ _ s hh =>
(aC_pro s hh fun _ _ s hh =>
(aC_pro s hh fun _ _ s hh =>
⟨_, (s.keep (.cons _ (.cons _ (.cons _ (.cons_cons _ (.cons _ (.cons _ (.cons_cons _ (List.Sublist.refl _))))))))), hh⟩))))) (fun hh =>
(box_B (i := 5) s rfl rfl
(newA_pro s (by first | exact rfl | exact True.intro) hh fun b61 _ _ s hh =>
(aC_pro s hh fun _ _ s hh =>
(aC_pro s hh fun _ _ s hh =>
(aC_pro s hh fun _ _ s hh =>
⟨_, (s.keep (.cons _ (.cons _ (.cons _ (.cons_cons _ (.cons _ (.cons _ (.cons_cons _ (List.Sublist.refl _))))))))), hh⟩))))))))) (fun hh =>
(box_B (i := 5) s rfl rfl
(box_B (i := 6) s rfl rfl
(bsel_pro hh (fun hh =>
(newA_pro s (by first | exact rfl | exact True.intro) hh fun b66 _ _ s hh =>
(aC_pro s hh fun _ _ s hh =>
(aC_pro s hh fun _ _ s hh =>
(aC_pro s hh fun _ _ s hh =>
⟨_, (s.keep (.cons _ (.cons _ (.cons _ (.cons_cons _ (.cons _ (.cons _ (.cons_cons _ (List.Sublist.refl _))))))))), hh⟩))))) (fun hh =>
(box_B (i := 5) s rfl rfl
(newA_pro s (by first | exact rfl | exact True.intro) hh fun b71 _ _ s hh =>
(aC_pro s hh fun _ _ s hh =>
(aC_pro s hh fun _ _ s hh =>
(aC_pro s hh fun _ _ s hh =>
⟨_, (s.keep (.cons _ (.cons _ (.cons _ (.cons_cons _ (.cons _ (.cons _ (.cons_cons _ (List.Sublist.refl _))))))))), hh⟩))))))))))))))))⟩))))))))))))))))))))))))))))))))) s hh)))))))))))))))))))) s hh)))))))))))))) s hh)))

/- demesne/demesnelaw04.WalkMarks -/
def demesnelaw04_WalkMarks_A (p0 : Sl) (p1 : Int) (p2 : Int) (p3 : Bool) (p4 : Bool) (p5 : Bool) (Q : Bool → AH → Prop) (h : AH) : Prop :=
(demesnelaw04_Lay_A p0 (fun pt2 n3 s4 mp5 h6 =>
(bsel pt2.isNone
(Q false h6)
(walk_Walk_A pt2 p1 p2 p3 p4 p5 (fun n8 b9 b10 b11 b12 b13 b14 n15 n16 n17 h18 =>
(bsel (n17 != (0 : Int))
(demesnelaw04_awake_A  (fun b21 h22 =>
(bsel b21
(demesnelaw04_Same_A pt2 n3 s4 mp5 p0 (fun n23 h24 =>
(Q (n23 == (0 : Int)) h24)) h22)
(Q false h22))) h18)
(walk_Walk_A pt2 p1 p2 false false false (fun n25 b26 b27 b28 b29 b30 b31 n32 n33 n34 h35 =>
(bsel (n34 != (0 : Int))
(Q false h35)
(bsel p3
(bsel (!b31)
(Q false h35)
(ram_RAM_Load_A pt2 (IntKind.wrap .u64 ((IntKind.wrap .u64 ((IntKind.wrap .u64 p1) * (4096 : Int))) + (IntKind.wrap .u64 ((Int.tmod (Int.fdiv p2 (2 ^ (39 : Nat))) (512 : Int)) * (8 : Int))))) (8 : Int) (fun n38 n39 h40 =>
(demesnelaw04_awake_A  (fun b41 h42 =>
(bsel b41
(bsel (n39 == (0 : Int))
(Q ((bits .and .u64 n38 (33 : Int)) == (33 : Int)) h42)
(Q false h42))
(Q false h42))) h40)) h35))
(ram_RAM_Load_A pt2 (IntKind.wrap .u64 ((IntKind.wrap .u64 ((IntKind.wrap .u64 p1) * (4096 : Int))) + (IntKind.wrap .u64 ((Int.tmod (Int.fdiv p2 (2 ^ (39 : Nat))) (512 : Int)) * (8 : Int))))) (8 : Int) (fun n43 n44 h45 =>
(demesnelaw04_awake_A  (fun b46 h47 =>
(bsel b46
(bsel (n44 == (0 : Int))
(Q ((bits .and .u64 n43 (33 : Int)) == (33 : Int)) h47)
(Q false h47))
(Q false h47))) h45)) h35)))) h18))) h6))) h)
set_option maxHeartbeats 4000000 in
theorem demesnelaw04_WalkMarks_pro {Z : Nat → Prop} {A : AH} {L : Bx} {h : Hp} {p0 : Sl} {p1 : Int} {p2 : Int} {p3 : Bool} {p4 : Bool} {p5 : Bool} {Q : Bool → Hp → Prop} {Q2 : Bool → AH → Prop} (hq : ∀ r0 A h, Sim Z A L h → Q2 r0 A → Q r0 h) (s : Sim Z A L h) (hh : demesnelaw04_WalkMarks_A p0 p1 p2 p3 p4 p5 Q2 A) : demesnelaw04_WalkMarks p0 p1 p2 p3 p4 p5 Q h := by
  unfold demesnelaw04_WalkMarks_A at hh
  unfold demesnelaw04_WalkMarks demesnelaw04_WalkMarks_G
  exact (box_new s fun b1 _ s =>
(demesnelaw04_Lay_pro (fun pt2 n3 s4 mp5 _ _ s hh =>
(box_new s fun b7 _ s =>
(box_set (i := 0) s rfl rfl rfl fun _ s =>
(box_set (i := 0) s rfl rfl rfl fun _ s =>
(box_set (i := 0) s rfl rfl rfl fun _ s =>
(have s : Sim _ _ ((b7, [(.int .i64 n3), (.slice s4.a s4.len s4.cap), (.map mp5)], 28) :: (b1, [(.int .i64 p1), (.int .u64 p2), (.bool p3), (.bool p4), (.bool p5)], 36) :: L) _ := s;
(bsel_pro hh (fun hh =>
(hq _ _ _ (s.keep (.cons _ (.cons _ (List.Sublist.refl _)))) hh)) (fun hh =>
(box_I (i := 1) s rfl rfl
(box_I (i := 1) s rfl rfl
(box_B (i := 1) s rfl rfl
(box_B (i := 1) s rfl rfl
(box_B (i := 1) s rfl rfl
(walk_Walk_pro (fun n8 b9 b10 b11 b12 b13 b14 n15 n16 n17 _ _ s hh =>
(box_new s fun b19 _ s =>
(box_new s fun b20 _ s =>
(box_set (i := 1) s rfl rfl rfl fun _ s =>
(box_set (i := 1) s rfl rfl rfl fun _ s =>
(box_set (i := 1) s rfl rfl rfl fun _ s =>
(box_set (i := 1) s rfl rfl rfl fun _ s =>
(box_set (i := 1) s rfl rfl rfl fun _ s =>
(box_set (i := 1) s rfl rfl rfl fun _ s =>
(box_set (i := 1) s rfl rfl rfl fun _ s =>
(have s : Sim _ _ ((b20, [(.int .u64 (0 : Int)), (.int .i64 (0 : Int))], 42) :: (b19, [(.int .i64 n8), (.bool b9), (.bool b10), (.bool b11), (.bool b12), (.bool b13), (.bool b14)], 40) :: (b7, [(.int .i64 n3), (.slice s4.a s4.len s4.cap), (.map mp5)], 28) :: (b1, [(.int .i64 p1), (.int .u64 p2), (.bool p3), (.bool p4), (.bool p5)], 36) :: L) _ := s;
(box_set (i := 0) s rfl rfl rfl fun _ s =>
(box_set (i := 0) s rfl rfl rfl fun _ s =>
(have s : Sim _ _ ((b20, [(.int .u64 n15), (.int .i64 n16)], 42) :: (b19, [(.int .i64 n8), (.bool b9), (.bool b10), (.bool b11), (.bool b12), (.bool b13), (.bool b14)], 40) :: (b7, [(.int .i64 n3), (.slice s4.a s4.len s4.cap), (.map mp5)], 28) :: (b1, [(.int .i64 p1), (.int .u64 p2), (.bool p3), (.bool p4), (.bool p5)], 36) :: L) _ := s;
(bsel_pro hh (fun hh =>
(demesnelaw04_awake_pro (fun b21 _ _ s hh =>
(bsel_pro hh (fun hh =>
(box_I (i := 2) s rfl rfl
(box_S (i := 2) s rfl rfl
(box_M (i := 2) s rfl rfl
(demesnelaw04_Same_pro (fun n23 _ _ s hh =>
(hq _ _ _ (s.keep (.cons _ (.cons _ (.cons _ (.cons _ (List.Sublist.refl _)))))) hh)) s hh))))) (fun hh =>
(hq _ _ _ (s.keep (.cons _ (.cons _ (.cons _ (.cons _ (List.Sublist.refl _)))))) hh)))) s hh)) (fun hh =>
(box_I (i := 3) s rfl rfl
(box_I (i := 3) s rfl rfl
(walk_Walk_pro (fun n25 b26 b27 b28 b29 b30 b31 n32 n33 n34 _ _ s hh =>
(box_new s fun b36 _ s =>
(box_new s fun b37 _ s =>
(box_set (i := 1) s rfl rfl rfl fun _ s =>
(box_set (i := 1) s rfl rfl rfl fun _ s =>
(box_set (i := 1) s rfl rfl rfl fun _ s =>
(box_set (i := 1) s rfl rfl rfl fun _ s =>
(box_set (i := 1) s rfl rfl rfl fun _ s =>
(box_set (i := 1) s rfl rfl rfl fun _ s =>
(box_set (i := 1) s rfl rfl rfl fun _ s =>
(have s : Sim _ _ ((b37, [(.int .u64 (0 : Int)), (.int .i64 (0 : Int))], 42) :: (b36, [(.int .i64 n25), (.bool b26), (.bool b27), (.bool b28), (.bool b29), (.bool b30), (.bool b31)], 40) :: (b20, [(.int .u64 n15), (.int .i64 n16)], 42) :: (b19, [(.int .i64 n8), (.bool b9), (.bool b10), (.bool b11), (.bool b12), (.bool b13), (.bool b14)], 40) :: (b7, [(.int .i64 n3), (.slice s4.a s4.len s4.cap), (.map mp5)], 28) :: (b1, [(.int .i64 p1), (.int .u64 p2), (.bool p3), (.bool p4), (.bool p5)], 36) :: L) _ := s;
(box_set (i := 0) s rfl rfl rfl fun _ s =>
(box_set (i := 0) s rfl rfl rfl fun _ s =>
(have s : Sim _ _ ((b37, [(.int .u64 n32), (.int .i64 n33)], 42) :: (b36, [(.int .i64 n25), (.bool b26), (.bool b27), (.bool b28), (.bool b29), (.bool b30), (.bool b31)], 40) :: (b20, [(.int .u64 n15), (.int .i64 n16)], 42) :: (b19, [(.int .i64 n8), (.bool b9), (.bool b10), (.bool b11), (.bool b12), (.bool b13), (.bool b14)], 40) :: (b7, [(.int .i64 n3), (.slice s4.a s4.len s4.cap), (.map mp5)], 28) :: (b1, [(.int .i64 p1), (.int .u64 p2), (.bool p3), (.bool p4), (.bool p5)], 36) :: L) _ := s;
(bsel_pro hh (fun hh =>
(hq _ _ _ (s.keep (.cons _ (.cons _ (.cons _ (.cons _ (.cons _ (.cons _ (List.Sublist.refl _)))))))) hh)) (fun hh =>
(box_B (i := 5) s rfl rfl
(bsel_pro hh (fun hh =>
(box_B (i := 1) s rfl rfl
(bsel_pro hh (fun hh =>
(hq _ _ _ (s.keep (.cons _ (.cons _ (.cons _ (.cons _ (.cons _ (.cons _ (List.Sublist.refl _)))))))) hh)) (fun hh =>
(box_I (i := 5) s rfl rfl
(box_I (i := 5) s rfl rfl
(ram_RAM_Load_pro (fun n38 n39 _ _ s hh =>
(demesnelaw04_awake_pro (fun b41 _ _ s hh =>
(bsel_pro hh (fun hh =>
(bsel_pro hh (fun hh =>
(hq _ _ _ (s.keep (.cons _ (.cons _ (.cons _ (.cons _ (.cons _ (.cons _ (List.Sublist.refl _)))))))) hh)) (fun hh =>
(hq _ _ _ (s.keep (.cons _ (.cons _ (.cons _ (.cons _ (.cons _ (.cons _ (List.Sublist.refl _)))))))) hh)))) (fun hh =>
(hq _ _ _ (s.keep (.cons _ (.cons _ (.cons _ (.cons _ (.cons _ (.cons _ (List.Sublist.refl _)))))))) hh)))) s hh)) s hh))))))) (fun hh =>
(box_I (i := 5) s rfl rfl
(box_I (i := 5) s rfl rfl
(ram_RAM_Load_pro (fun n43 n44 _ _ s hh =>
(demesnelaw04_awake_pro (fun b46 _ _ s hh =>
(bsel_pro hh (fun hh =>
(bsel_pro hh (fun hh =>
(hq _ _ _ (s.keep (.cons _ (.cons _ (.cons _ (.cons _ (.cons _ (.cons _ (List.Sublist.refl _)))))))) hh)) (fun hh =>
(hq _ _ _ (s.keep (.cons _ (.cons _ (.cons _ (.cons _ (.cons _ (.cons _ (List.Sublist.refl _)))))))) hh)))) (fun hh =>
(hq _ _ _ (s.keep (.cons _ (.cons _ (.cons _ (.cons _ (.cons _ (.cons _ (List.Sublist.refl _)))))))) hh)))) s hh)) s hh)))))))))))))))))))))) s hh))))))))))))))))))) s hh)))))))))))))) s hh))

/- demesne/demesnelaw04.WalkNarrow -/
def demesnelaw04_WalkNarrow_A (p0 : Int) (p1 : Int) (p2 : Bool) (p3 : Bool) (p4 : Bool) (Q : Bool → AH → Prop) (h : AH) : Prop :=
(bsel (decide (p0 < (0 : Int)))
(demesnelaw04_awake_A  (fun b2 h3 =>
(Q b2 h3)) h)
(bsel (decide (p0 > (3 : Int)))
(demesnelaw04_awake_A  (fun b4 h5 =>
(Q b4 h5)) h)
(newA h (.cells #[(.int .i64 (0 : Int)), (.int .i64 (0 : Int)), (.int .u64 (4103 : Int)), (.int .i64 (1 : Int)), (.int .i64 (0 : Int)), (.int .u64 (8199 : Int)), (.int .i64 (2 : Int)), (.int .i64 (0 : Int)), (.int .u64 (12295 : Int)), (.int .i64 (3 : Int)), (.int .i64 (0 : Int)), (.int .u64 (16391 : Int))] 60) fun b6 h7 =>
(∃ R8 : Int → AH → Prop, (∀ x17 : Int, ∀ h18, R8 x17 h18 → 
(demesnelaw04_Lay_A (Sl.mk (some (Addr.mk b6 0 none)) 4 4) (fun pt19 n20 s21 mp22 h23 =>
(bsel pt19.isNone
(Q false h23)
(walk_Walk_A pt19 (0 : Int) (123 : Int) p2 p3 p4 (fun n25 b26 b27 b28 b29 b30 b31 n32 n33 n34 h35 =>
(bsel (n34 != x17)
(Q false h35)
(bsel (n34 != (0 : Int))
(bsel (n32 != (123 : Int))
(Q false h35)
(bsel (!(((bits .and .i64 n33 (1 : Int)) == (0 : Int)) == (p1 == (4 : Int))))
(Q false h35)
(demesnelaw04_awake_A  (fun b38 h39 =>
(bsel b38
(bsel (n34 != (0 : Int))
(Q true h39)
(Q (n25 == (4 : Int)) h39))
(Q false h39))) h35)))
(demesnelaw04_awake_A  (fun b40 h41 =>
(bsel b40
(bsel (n34 != (0 : Int))
(Q true h41)
(Q (n25 == (4 : Int)) h41))
(Q false h41))) h35)))) h23))) h18)) ∧
(bsel (p1 == (1 : Int))
(inB p0 4
(aI .u64 (Addr.add (Addr.add (Addr.mk b6 0 none) (Int.toNat p0 * 3)) 2) h7 fun n9 =>
(inB p0 4
(aC (Addr.add (Addr.add (Addr.mk b6 0 none) (Int.toNat p0 * 3)) 2) (.int .u64 (bits .andNot .u64 n9 (2 : Int))) h7 fun h10 =>
(bsel p2
(R8 (9 : Int) h10)
(R8 (0 : Int) h10))))))
(bsel (p1 == (2 : Int))
(inB p0 4
(aI .u64 (Addr.add (Addr.add (Addr.mk b6 0 none) (Int.toNat p0 * 3)) 2) h7 fun n11 =>
(inB p0 4
(aC (Addr.add (Addr.add (Addr.mk b6 0 none) (Int.toNat p0 * 3)) 2) (.int .u64 (bits .andNot .u64 n11 (4 : Int))) h7 fun h12 =>
(bsel p3
(R8 (9 : Int) h12)
(R8 (0 : Int) h12))))))
(bsel (p1 == (3 : Int))
(inB p0 4
(aI .u64 (Addr.add (Addr.add (Addr.mk b6 0 none) (Int.toNat p0 * 3)) 2) h7 fun n13 =>
(inB p0 4
(aC (Addr.add (Addr.add (Addr.mk b6 0 none) (Int.toNat p0 * 3)) 2) (.int .u64 (bits .or .u64 n13 (9223372036854775808 : Int))) h7 fun h14 =>
(bsel p4
(R8 (9 : Int) h14)
(R8 (0 : Int) h14))))))
(bsel (p1 == (4 : Int))
(inB p0 4
(aI .u64 (Addr.add (Addr.add (Addr.mk b6 0 none) (Int.toNat p0 * 3)) 2) h7 fun n15 =>
(inB p0 4
(aC (Addr.add (Addr.add (Addr.mk b6 0 none) (Int.toNat p0 * 3)) 2) (.int .u64 (bits .andNot .u64 n15 (1 : Int))) h7 fun h16 =>
(R8 (9 : Int) h16)))))
(R8 (0 : Int) h7)))))))))
set_option maxHeartbeats 4000000 in
theorem demesnelaw04_WalkNarrow_pro {Z : Nat → Prop} {A : AH} {L : Bx} {h : Hp} {p0 : Int} {p1 : Int} {p2 : Bool} {p3 : Bool} {p4 : Bool} {Q : Bool → Hp → Prop} {Q2 : Bool → AH → Prop} (hq : ∀ r0 A h, Sim Z A L h → Q2 r0 A → Q r0 h) (s : Sim Z A L h) (hh : demesnelaw04_WalkNarrow_A p0 p1 p2 p3 p4 Q2 A) : demesnelaw04_WalkNarrow p0 p1 p2 p3 p4 Q h := by
  unfold demesnelaw04_WalkNarrow_A at hh
  unfold demesnelaw04_WalkNarrow demesnelaw04_WalkNarrow_G
  exact (box_new s fun b1 _ s =>
(bsel_pro hh (fun hh =>
(demesnelaw04_awake_pro (fun b2 _ _ s hh =>
(hq _ _ _ (s.keep (.cons _ (List.Sublist.refl _))) hh)) s hh)) (fun hh =>
(bsel_pro hh (fun hh =>
(demesnelaw04_awake_pro (fun b4 _ _ s hh =>
(hq _ _ _ (s.keep (.cons _ (List.Sublist.refl _))) hh)) s hh)) (fun hh =>
(newA_pro s (by first | exact rfl | exact True.intro) hh fun b6 _ _ s hh =>
(match hh with | ⟨R8, q1, hh⟩ => ⟨fun x17 h => ∃ A, Sim Z A ((b1, [(.bool p2), (.bool p3), (.bool p4)], 34) :: L) h ∧ R8 x17 A, fun x17 h ⟨h18, s, q2⟩ => (have hh := q1 x17 h18 q2;
(demesnelaw04_Lay_pro (fun pt19 n20 s21 mp22 _ _ s hh =>
(box_new s fun b24 _ s =>
(box_set (i := 0) s rfl rfl rfl fun _ s =>
(box_set (i := 0) s rfl rfl rfl fun _ s =>
(box_set (i := 0) s rfl rfl rfl fun _ s =>
(have s : Sim _ _ ((b24, [(.int .i64 n20), (.slice s21.a s21.len s21.cap), (.map mp22)], 28) :: (b1, [(.bool p2), (.bool p3), (.bool p4)], 34) :: L) _ := s;
(bsel_pro hh (fun hh =>
(hq _ _ _ (s.keep (.cons _ (.cons _ (List.Sublist.refl _)))) hh)) (fun hh =>
(box_B (i := 1) s rfl rfl
(box_B (i := 1) s rfl rfl
(box_B (i := 1) s rfl rfl
(walk_Walk_pro (fun n25 b26 b27 b28 b29 b30 b31 n32 n33 n34 _ _ s hh =>
(box_new s fun b36 _ s =>
(box_new s fun b37 _ s =>
(box_set (i := 1) s rfl rfl rfl fun _ s =>
(box_set (i := 1) s rfl rfl rfl fun _ s =>
(box_set (i := 1) s rfl rfl rfl fun _ s =>
(box_set (i := 1) s rfl rfl rfl fun _ s =>
(box_set (i := 1) s rfl rfl rfl fun _ s =>
(box_set (i := 1) s rfl rfl rfl fun _ s =>
(box_set (i := 1) s rfl rfl rfl fun _ s =>
(have s : Sim _ _ ((b37, [(.int .u64 (0 : Int)), (.int .i64 (0 : Int))], 42) :: (b36, [(.int .i64 n25), (.bool b26), (.bool b27), (.bool b28), (.bool b29), (.bool b30), (.bool b31)], 40) :: (b24, [(.int .i64 n20), (.slice s21.a s21.len s21.cap), (.map mp22)], 28) :: (b1, [(.bool p2), (.bool p3), (.bool p4)], 34) :: L) _ := s;
(box_set (i := 0) s rfl rfl rfl fun _ s =>
(box_set (i := 0) s rfl rfl rfl fun _ s =>
(have s : Sim _ _ ((b37, [(.int .u64 n32), (.int .i64 n33)], 42) :: (b36, [(.int .i64 n25), (.bool b26), (.bool b27), (.bool b28), (.bool b29), (.bool b30), (.bool b31)], 40) :: (b24, [(.int .i64 n20), (.slice s21.a s21.len s21.cap), (.map mp22)], 28) :: (b1, [(.bool p2), (.bool p3), (.bool p4)], 34) :: L) _ := s;
(bsel_pro hh (fun hh =>
(hq _ _ _ (s.keep (.cons _ (.cons _ (.cons _ (.cons _ (List.Sublist.refl _)))))) hh)) (fun hh =>
(bsel_pro hh (fun hh =>
(box_I (i := 0) s rfl rfl
(bsel_pro hh (fun hh =>
(hq _ _ _ (s.keep (.cons _ (.cons _ (.cons _ (.cons _ (List.Sublist.refl _)))))) hh)) (fun hh =>
(box_I (i := 0) s rfl rfl
(bsel_pro hh (fun hh =>
(hq _ _ _ (s.keep (.cons _ (.cons _ (.cons _ (.cons _ (List.Sublist.refl _)))))) hh)) (fun hh =>
(demesnelaw04_awake_pro (fun b38 _ _ s hh =>
(bsel_pro hh (fun hh =>
(bsel_pro hh (fun hh =>
(hq _ _ _ (s.keep (.cons _ (.cons _ (.cons _ (.cons _ (List.Sublist.refl _)))))) hh)) (fun hh =>
(box_I (i := 1) s rfl rfl
(hq _ _ _ (s.keep (.cons _ (.cons _ (.cons _ (.cons _ (List.Sublist.refl _)))))) hh))))) (fun hh =>
(hq _ _ _ (s.keep (.cons _ (.cons _ (.cons _ (.cons _ (List.Sublist.refl _)))))) hh)))) s hh)))))))) (fun hh =>
(demesnelaw04_awake_pro (fun b40 _ _ s hh =>
(bsel_pro hh (fun hh =>
(bsel_pro hh (fun hh =>
(hq _ _ _ (s.keep (.cons _ (.cons _ (.cons _ (.cons _ (List.Sublist.refl _)))))) hh)) (fun hh =>
(box_I (i := 1) s rfl rfl
(hq _ _ _ (s.keep (.cons _ (.cons _ (.cons _ (.cons _ (List.Sublist.refl _)))))) hh))))) (fun hh =>
(hq _ _ _ (s.keep (.cons _ (.cons _ (.cons _ (.cons _ (List.Sublist.refl _)))))) hh)))) s hh))))))))))))))))))) s hh)))))))))))) s hh)),
(bsel_pro hh (fun hh =>
(inB_pro hh fun hh =>
(aI_pro s hh fun n9 hh =>
(inB_pro hh fun hh =>
(aC_pro s hh fun _ _ s hh =>
(box_B (i := 0) s rfl rfl
(bsel_pro hh (fun hh =>
⟨_, s, hh⟩) (fun hh =>
⟨_, s, hh⟩)))))))) (fun hh =>
(bsel_pro hh (fun hh =>
(inB_pro hh fun hh =>
(aI_pro s hh fun n11 hh =>
(inB_pro hh fun hh =>
(aC_pro s hh fun _ _ s hh =>
(box_B (i := 0) s rfl rfl
(bsel_pro hh (fun hh =>
⟨_, s, hh⟩) (fun hh =>
⟨_, s, hh⟩)))))))) (fun hh =>
(bsel_pro hh (fun hh =>
(inB_pro hh fun hh =>
(aI_pro s hh fun n13 hh =>
(inB_pro hh fun hh =>
(aC_pro s hh fun _ _ s hh =>
(box_B (i := 0) s rfl rfl
(bsel_pro hh (fun hh =>
⟨_, s, hh⟩) (fun hh =>
⟨_, s, hh⟩)))))))) (fun hh =>
(bsel_pro hh (fun hh =>
(inB_pro hh fun hh =>
(aI_pro s hh fun n15 hh =>
(inB_pro hh fun hh =>
(aC_pro s hh fun _ _ s hh =>
⟨_, s, hh⟩))))) (fun hh =>
⟨_, s, hh⟩))))))))⟩)))))))

/- demesne/demesnelaw04.WalkPages -/
def demesnelaw04_WalkPages_A (p0 : Sl) (p1 : Int) (p2 : Int) (p3 : Bool) (p4 : Bool) (p5 : Bool) (p6 : Int) (Q : Bool → AH → Prop) (h : AH) : Prop :=
(demesnelaw04_Lay_A p0 (fun pt2 n3 s4 mp5 h6 =>
(bsel pt2.isNone
(bsel (!pt2.isNone)
(demesnelaw04_awake_A  (fun b8 h9 =>
(Q b8 h9)) h6)
(Q false h6))
(bsel (decide (p6 < (0 : Int)))
(bsel (!pt2.isNone)
(demesnelaw04_awake_A  (fun b10 h11 =>
(Q b10 h11)) h6)
(Q false h6))
(bsel (decide (p6 > (4095 : Int)))
(bsel (!pt2.isNone)
(demesnelaw04_awake_A  (fun b12 h13 =>
(Q b12 h13)) h6)
(Q false h6))
(walk_Walk_A pt2 p1 p2 p3 p4 p5 (fun n14 b15 b16 b17 b18 b19 b20 n21 n22 n23 h24 =>
(walk_Walk_A pt2 p1 (IntKind.wrap .u64 ((IntKind.wrap .u64 (p2 - (Int.tmod p2 (4096 : Int)))) + (IntKind.wrap .u64 p6))) p3 p4 p5 (fun n27 b28 b29 b30 b31 b32 b33 n34 n35 n36 h37 =>
(bsel (n23 != n36)
(Q false h37)
(bsel (n22 != n35)
(Q false h37)
(bsel (n23 == (9 : Int))
(bsel (n21 != p2)
(Q false h37)
(bsel (n34 != (IntKind.wrap .u64 ((IntKind.wrap .u64 (p2 - (Int.tmod p2 (4096 : Int)))) + (IntKind.wrap .u64 p6))))
(Q false h37)
(demesnelaw04_awake_A  (fun b40 h41 =>
(bsel b40
(Q ((n14 == n27) && (((b15 == b28) && ((b16 == b29) && ((b17 == b30) && true))) && ((b18 == b31) && ((b19 == b32) && ((b20 == b33) && true))))) h41)
(Q false h41))) h37)))
(demesnelaw04_awake_A  (fun b42 h43 =>
(bsel b42
(Q ((n14 == n27) && (((b15 == b28) && ((b16 == b29) && ((b17 == b30) && true))) && ((b18 == b31) && ((b19 == b32) && ((b20 == b33) && true))))) h43)
(Q false h43))) h37))))) h24)) h6))))) h)
set_option maxHeartbeats 4000000 in
theorem demesnelaw04_WalkPages_pro {Z : Nat → Prop} {A : AH} {L : Bx} {h : Hp} {p0 : Sl} {p1 : Int} {p2 : Int} {p3 : Bool} {p4 : Bool} {p5 : Bool} {p6 : Int} {Q : Bool → Hp → Prop} {Q2 : Bool → AH → Prop} (hq : ∀ r0 A h, Sim Z A L h → Q2 r0 A → Q r0 h) (s : Sim Z A L h) (hh : demesnelaw04_WalkPages_A p0 p1 p2 p3 p4 p5 p6 Q2 A) : demesnelaw04_WalkPages p0 p1 p2 p3 p4 p5 p6 Q h := by
  unfold demesnelaw04_WalkPages_A at hh
  unfold demesnelaw04_WalkPages demesnelaw04_WalkPages_G
  exact (box_new s fun b1 _ s =>
(demesnelaw04_Lay_pro (fun pt2 n3 s4 mp5 _ _ s hh =>
(box_new s fun b7 _ s =>
(box_set (i := 0) s rfl rfl rfl fun _ s =>
(box_set (i := 0) s rfl rfl rfl fun _ s =>
(box_set (i := 0) s rfl rfl rfl fun _ s =>
(have s : Sim _ _ ((b7, [(.int .i64 n3), (.slice s4.a s4.len s4.cap), (.map mp5)], 28) :: (b1, [(.int .i64 p1), (.int .u64 p2), (.bool p3), (.bool p4), (.bool p5)], 36) :: L) _ := s;
(bsel_pro hh (fun hh =>
(bsel_pro hh (fun hh =>
(demesnelaw04_awake_pro (fun b8 _ _ s hh =>
(hq _ _ _ (s.keep (.cons _ (.cons _ (List.Sublist.refl _)))) hh)) s hh)) (fun hh =>
(hq _ _ _ (s.keep (.cons _ (.cons _ (List.Sublist.refl _)))) hh)))) (fun hh =>
(bsel_pro hh (fun hh =>
(bsel_pro hh (fun hh =>
(demesnelaw04_awake_pro (fun b10 _ _ s hh =>
(hq _ _ _ (s.keep (.cons _ (.cons _ (List.Sublist.refl _)))) hh)) s hh)) (fun hh =>
(hq _ _ _ (s.keep (.cons _ (.cons _ (List.Sublist.refl _)))) hh)))) (fun hh =>
(bsel_pro hh (fun hh =>
(bsel_pro hh (fun hh =>
(demesnelaw04_awake_pro (fun b12 _ _ s hh =>
(hq _ _ _ (s.keep (.cons _ (.cons _ (List.Sublist.refl _)))) hh)) s hh)) (fun hh =>
(hq _ _ _ (s.keep (.cons _ (.cons _ (List.Sublist.refl _)))) hh)))) (fun hh =>
(box_I (i := 1) s rfl rfl
(box_I (i := 1) s rfl rfl
(box_B (i := 1) s rfl rfl
(box_B (i := 1) s rfl rfl
(box_B (i := 1) s rfl rfl
(walk_Walk_pro (fun n14 b15 b16 b17 b18 b19 b20 n21 n22 n23 _ _ s hh =>
(box_new s fun b25 _ s =>
(box_new s fun b26 _ s =>
(box_set (i := 1) s rfl rfl rfl fun _ s =>
(box_set (i := 1) s rfl rfl rfl fun _ s =>
(box_set (i := 1) s rfl rfl rfl fun _ s =>
(box_set (i := 1) s rfl rfl rfl fun _ s =>
(box_set (i := 1) s rfl rfl rfl fun _ s =>
(box_set (i := 1) s rfl rfl rfl fun _ s =>
(box_set (i := 1) s rfl rfl rfl fun _ s =>
(have s : Sim _ _ ((b26, [(.int .u64 (0 : Int)), (.int .i64 (0 : Int))], 42) :: (b25, [(.int .i64 n14), (.bool b15), (.bool b16), (.bool b17), (.bool b18), (.bool b19), (.bool b20)], 40) :: (b7, [(.int .i64 n3), (.slice s4.a s4.len s4.cap), (.map mp5)], 28) :: (b1, [(.int .i64 p1), (.int .u64 p2), (.bool p3), (.bool p4), (.bool p5)], 36) :: L) _ := s;
(box_set (i := 0) s rfl rfl rfl fun _ s =>
(box_set (i := 0) s rfl rfl rfl fun _ s =>
(have s : Sim _ _ ((b26, [(.int .u64 n21), (.int .i64 n22)], 42) :: (b25, [(.int .i64 n14), (.bool b15), (.bool b16), (.bool b17), (.bool b18), (.bool b19), (.bool b20)], 40) :: (b7, [(.int .i64 n3), (.slice s4.a s4.len s4.cap), (.map mp5)], 28) :: (b1, [(.int .i64 p1), (.int .u64 p2), (.bool p3), (.bool p4), (.bool p5)], 36) :: L) _ := s;
(box_I (i := 3) s rfl rfl
(box_I (i := 3) s rfl rfl
(box_I (i := 3) s rfl rfl
(box_B (i := 3) s rfl rfl
(box_B (i := 3) s rfl rfl
(box_B (i := 3) s rfl rfl
(walk_Walk_pro (fun n27 b28 b29 b30 b31 b32 b33 n34 n35 n36 _ _ s hh =>
(box_new s fun b38 _ s =>
(box_new s fun b39 _ s =>
(box_set (i := 1) s rfl rfl rfl fun _ s =>
(box_set (i := 1) s rfl rfl rfl fun _ s =>
(box_set (i := 1) s rfl rfl rfl fun _ s =>
(box_set (i := 1) s rfl rfl rfl fun _ s =>
(box_set (i := 1) s rfl rfl rfl fun _ s =>
(box_set (i := 1) s rfl rfl rfl fun _ s =>
(box_set (i := 1) s rfl rfl rfl fun _ s =>
(have s : Sim _ _ ((b39, [(.int .u64 (0 : Int)), (.int .i64 (0 : Int))], 42) :: (b38, [(.int .i64 n27), (.bool b28), (.bool b29), (.bool b30), (.bool b31), (.bool b32), (.bool b33)], 40) :: (b26, [(.int .u64 n21), (.int .i64 n22)], 42) :: (b25, [(.int .i64 n14), (.bool b15), (.bool b16), (.bool b17), (.bool b18), (.bool b19), (.bool b20)], 40) :: (b7, [(.int .i64 n3), (.slice s4.a s4.len s4.cap), (.map mp5)], 28) :: (b1, [(.int .i64 p1), (.int .u64 p2), (.bool p3), (.bool p4), (.bool p5)], 36) :: L) _ := s;
(box_set (i := 0) s rfl rfl rfl fun _ s =>
(box_set (i := 0) s rfl rfl rfl fun _ s =>
(have s : Sim _ _ ((b39, [(.int .u64 n34), (.int .i64 n35)], 42) :: (b38, [(.int .i64 n27), (.bool b28), (.bool b29), (.bool b30), (.bool b31), (.bool b32), (.bool b33)], 40) :: (b26, [(.int .u64 n21), (.int .i64 n22)], 42) :: (b25, [(.int .i64 n14), (.bool b15), (.bool b16), (.bool b17), (.bool b18), (.bool b19), (.bool b20)], 40) :: (b7, [(.int .i64 n3), (.slice s4.a s4.len s4.cap), (.map mp5)], 28) :: (b1, [(.int .i64 p1), (.int .u64 p2), (.bool p3), (.bool p4), (.bool p5)], 36) :: L) _ := s;
(bsel_pro hh (fun hh =>
(hq _ _ _ (s.keep (.cons _ (.cons _ (.cons _ (.cons _ (.cons _ (.cons _ (List.Sublist.refl _)))))))) hh)) (fun hh =>
(box_I (i := 2) s rfl rfl
(box_I (i := 0) s rfl rfl
(bsel_pro hh (fun hh =>
(hq _ _ _ (s.keep (.cons _ (.cons _ (.cons _ (.cons _ (.cons _ (.cons _ (List.Sublist.refl _)))))))) hh)) (fun hh =>
(bsel_pro hh (fun hh =>
(box_I (i := 2) s rfl rfl
(box_I (i := 5) s rfl rfl
(bsel_pro hh (fun hh =>
(hq _ _ _ (s.keep (.cons _ (.cons _ (.cons _ (.cons _ (.cons _ (.cons _ (List.Sublist.refl _)))))))) hh)) (fun hh =>
(box_I (i := 0) s rfl rfl
(bsel_pro hh (fun hh =>
(hq _ _ _ (s.keep (.cons _ (.cons _ (.cons _ (.cons _ (.cons _ (.cons _ (List.Sublist.refl _)))))))) hh)) (fun hh =>
(demesnelaw04_awake_pro (fun b40 _ _ s hh =>
(bsel_pro hh (fun hh =>
(box_I (i := 3) s rfl rfl
(box_B (i := 3) s rfl rfl
(box_B (i := 3) s rfl rfl
(box_B (i := 3) s rfl rfl
(box_B (i := 3) s rfl rfl
(box_B (i := 3) s rfl rfl
(box_B (i := 3) s rfl rfl
(box_I (i := 1) s rfl rfl
(box_B (i := 1) s rfl rfl
(box_B (i := 1) s rfl rfl
(box_B (i := 1) s rfl rfl
(box_B (i := 1) s rfl rfl
(box_B (i := 1) s rfl rfl
(box_B (i := 1) s rfl rfl
(hq _ _ _ (s.keep (.cons _ (.cons _ (.cons _ (.cons _ (.cons _ (.cons _ (List.Sublist.refl _)))))))) hh)))))))))))))))) (fun hh =>
(hq _ _ _ (s.keep (.cons _ (.cons _ (.cons _ (.cons _ (.cons _ (.cons _ (List.Sublist.refl _)))))))) hh)))) s hh))))))))) (fun hh =>
(demesnelaw04_awake_pro (fun b42 _ _ s hh =>
(bsel_pro hh (fun hh =>
(box_I (i := 3) s rfl rfl
(box_B (i := 3) s rfl rfl
(box_B (i := 3) s rfl rfl
(box_B (i := 3) s rfl rfl
(box_B (i := 3) s rfl rfl
(box_B (i := 3) s rfl rfl
(box_B (i := 3) s rfl rfl
(box_I (i := 1) s rfl rfl
(box_B (i := 1) s rfl rfl
(box_B (i := 1) s rfl rfl
(box_B (i := 1) s rfl rfl
(box_B (i := 1) s rfl rfl
(box_B (i := 1) s rfl rfl
(box_B (i := 1) s rfl rfl
(hq _ _ _ (s.keep (.cons _ (.cons _ (.cons _ (.cons _ (.cons _ (.cons _ (List.Sublist.refl _)))))))) hh)))))))))))))))) (fun hh =>
(hq _ _ _ (s.keep (.cons _ (.cons _ (.cons _ (.cons _ (.cons _ (.cons _ (List.Sublist.refl _)))))))) hh)))) s hh))))))))))))))))))))))) s hh))))))))))))))))))))) s hh)))))))))))))))))) s hh))

/- demesne/demesnelaw04.WalkLarge -/
def demesnelaw04_WalkLarge_A (p0 : Int) (p1 : Int) (p2 : Int) (p3 : Bool) (p4 : Bool) (p5 : Bool) (Q : Bool → AH → Prop) (h : AH) : Prop :=
(bsel (decide (p0 < (0 : Int)))
(demesnelaw04_awake_A  (fun b2 h3 =>
(Q b2 h3)) h)
(bsel (decide (p0 ≥ (2048 : Int)))
(demesnelaw04_awake_A  (fun b4 h5 =>
(Q b4 h5)) h)
(bsel (decide (p1 < (0 : Int)))
(demesnelaw04_awake_A  (fun b6 h7 =>
(Q b6 h7)) h)
(bsel (decide (p1 > (511 : Int)))
(demesnelaw04_awake_A  (fun b8 h9 =>
(Q b8 h9)) h)
(bsel (decide (p2 < (0 : Int)))
(demesnelaw04_awake_A  (fun b10 h11 =>
(Q b10 h11)) h)
(bsel (decide (p2 > (20 : Int)))
(demesnelaw04_awake_A  (fun b12 h13 =>
(Q b12 h13)) h)
(∃ R14 : Int → AH → Prop, (∀ x15 : Int, ∀ h16, R14 x15 h16 → 
(newA h16 (.cells #[(.int .i64 (0 : Int)), (.int .i64 (0 : Int)), (.int .u64 (4103 : Int)), (.int .i64 (1 : Int)), (.int .i64 (0 : Int)), (.int .u64 (8199 : Int)), (.int .i64 (2 : Int)), (.int .i64 (3 : Int)), (.int .u64 x15)] 60) fun b17 h18 =>
(demesnelaw04_Lay_A (Sl.mk (some (Addr.mk b17 0 none)) 3 3) (fun pt19 n20 s21 mp22 h23 =>
(bsel pt19.isNone
(Q false h23)
(walk_Walk_A pt19 (0 : Int) (bits .or .u64 (bits .or .u64 (6291456 : Int) (IntKind.wrap .u64 ((IntKind.wrap .u64 p1) * 2 ^ (12 : Nat)))) (5 : Int)) p3 p4 p5 (fun n25 b26 b27 b28 b29 b30 b31 n32 n33 n34 h35 =>
(bsel (decide (p2 ≥ (12 : Int)))
(demesnelaw04_awake_A  (fun b38 h39 =>
(bsel b38
(bsel (n34 == (9 : Int))
(Q ((bits .and .i64 n33 (9 : Int)) == (9 : Int)) h39)
(Q false h39))
(Q false h39))) h35)
(demesnelaw04_awake_A  (fun b40 h41 =>
(bsel b40
(bsel (n34 == (0 : Int))
(bsel b30
(bsel (n25 == (IntKind.wrap .i64 ((IntKind.wrap .i64 (p0 * (512 : Int))) + p1)))
(Q (b31 == p3) h41)
(Q false h41))
(Q false h41))
(Q false h41))
(Q false h41))) h35))) h23))) h18))) ∧
(bsel (decide (p2 ≥ (12 : Int)))
(bsel (decide (p2 < 0)) False
(R14 (bits .or .u64 (bits .or .u64 (IntKind.wrap .u64 ((IntKind.wrap .u64 p0) * 2 ^ (21 : Nat))) (135 : Int)) (IntKind.wrap .u64 ((1 : Int) * 2 ^ (min (Int.toNat p2) 64)))) h))
(R14 (bits .or .u64 (IntKind.wrap .u64 ((IntKind.wrap .u64 p0) * 2 ^ (21 : Nat))) (135 : Int)) h)))))))))
set_option maxHeartbeats 4000000 in
theorem demesnelaw04_WalkLarge_pro {Z : Nat → Prop} {A : AH} {L : Bx} {h : Hp} {p0 : Int} {p1 : Int} {p2 : Int} {p3 : Bool} {p4 : Bool} {p5 : Bool} {Q : Bool → Hp → Prop} {Q2 : Bool → AH → Prop} (hq : ∀ r0 A h, Sim Z A L h → Q2 r0 A → Q r0 h) (s : Sim Z A L h) (hh : demesnelaw04_WalkLarge_A p0 p1 p2 p3 p4 p5 Q2 A) : demesnelaw04_WalkLarge p0 p1 p2 p3 p4 p5 Q h := by
  unfold demesnelaw04_WalkLarge_A at hh
  unfold demesnelaw04_WalkLarge demesnelaw04_WalkLarge_G
  exact (box_new s fun b1 _ s =>
(bsel_pro hh (fun hh =>
(demesnelaw04_awake_pro (fun b2 _ _ s hh =>
(hq _ _ _ (s.keep (.cons _ (List.Sublist.refl _))) hh)) s hh)) (fun hh =>
(bsel_pro hh (fun hh =>
(demesnelaw04_awake_pro (fun b4 _ _ s hh =>
(hq _ _ _ (s.keep (.cons _ (List.Sublist.refl _))) hh)) s hh)) (fun hh =>
(bsel_pro hh (fun hh =>
(demesnelaw04_awake_pro (fun b6 _ _ s hh =>
(hq _ _ _ (s.keep (.cons _ (List.Sublist.refl _))) hh)) s hh)) (fun hh =>
(bsel_pro hh (fun hh =>
(demesnelaw04_awake_pro (fun b8 _ _ s hh =>
(hq _ _ _ (s.keep (.cons _ (List.Sublist.refl _))) hh)) s hh)) (fun hh =>
(bsel_pro hh (fun hh =>
(demesnelaw04_awake_pro (fun b10 _ _ s hh =>
(hq _ _ _ (s.keep (.cons _ (List.Sublist.refl _))) hh)) s hh)) (fun hh =>
(bsel_pro hh (fun hh =>
(demesnelaw04_awake_pro (fun b12 _ _ s hh =>
(hq _ _ _ (s.keep (.cons _ (List.Sublist.refl _))) hh)) s hh)) (fun hh =>
(match hh with | ⟨R14, q1, hh⟩ => ⟨fun x15 h => ∃ A, Sim Z A ((b1, [(.bool p3), (.bool p4), (.bool p5)], 34) :: L) h ∧ R14 x15 A, fun x15 h ⟨h16, s, q2⟩ => (have hh := q1 x15 h16 q2;
(newA_pro s (by first | exact rfl | exact True.intro) hh fun b17 _ _ s hh =>
(demesnelaw04_Lay_pro (fun pt19 n20 s21 mp22 _ _ s hh =>
(box_new s fun b24 _ s =>
(box_set (i := 0) s rfl rfl rfl fun _ s =>
(box_set (i := 0) s rfl rfl rfl fun _ s =>
(box_set (i := 0) s rfl rfl rfl fun _ s =>
(have s : Sim _ _ ((b24, [(.int .i64 n20), (.slice s21.a s21.len s21.cap), (.map mp22)], 28) :: (b1, [(.bool p3), (.bool p4), (.bool p5)], 34) :: L) _ := s;
(bsel_pro hh (fun hh =>
(hq _ _ _ (s.keep (.cons _ (.cons _ (List.Sublist.refl _)))) hh)) (fun hh =>
(box_B (i := 1) s rfl rfl
(box_B (i := 1) s rfl rfl
(box_B (i := 1) s rfl rfl
(walk_Walk_pro (fun n25 b26 b27 b28 b29 b30 b31 n32 n33 n34 _ _ s hh =>
(box_new s fun b36 _ s =>
(box_new s fun b37 _ s =>
(box_set (i := 1) s rfl rfl rfl fun _ s =>
(box_set (i := 1) s rfl rfl rfl fun _ s =>
(box_set (i := 1) s rfl rfl rfl fun _ s =>
(box_set (i := 1) s rfl rfl rfl fun _ s =>
(box_set (i := 1) s rfl rfl rfl fun _ s =>
(box_set (i := 1) s rfl rfl rfl fun _ s =>
(box_set (i := 1) s rfl rfl rfl fun _ s =>
(have s : Sim _ _ ((b37, [(.int .u64 (0 : Int)), (.int .i64 (0 : Int))], 42) :: (b36, [(.int .i64 n25), (.bool b26), (.bool b27), (.bool b28), (.bool b29), (.bool b30), (.bool b31)], 40) :: (b24, [(.int .i64 n20), (.slice s21.a s21.len s21.cap), (.map mp22)], 28) :: (b1, [(.bool p3), (.bool p4), (.bool p5)], 34) :: L) _ := s;
(box_set (i := 0) s rfl rfl rfl fun _ s =>
(box_set (i := 0) s rfl rfl rfl fun _ s =>
(have s : Sim _ _ ((b37, [(.int .u64 n32), (.int .i64 n33)], 42) :: (b36, [(.int .i64 n25), (.bool b26), (.bool b27), (.bool b28), (.bool b29), (.bool b30), (.bool b31)], 40) :: (b24, [(.int .i64 n20), (.slice s21.a s21.len s21.cap), (.map mp22)], 28) :: (b1, [(.bool p3), (.bool p4), (.bool p5)], 34) :: L) _ := s;
(bsel_pro hh (fun hh =>
(demesnelaw04_awake_pro (fun b38 _ _ s hh =>
(bsel_pro hh (fun hh =>
(bsel_pro hh (fun hh =>
(box_I (i := 0) s rfl rfl
(hq _ _ _ (s.keep (.cons _ (.cons _ (.cons _ (.cons _ (List.Sublist.refl _)))))) hh))) (fun hh =>
(hq _ _ _ (s.keep (.cons _ (.cons _ (.cons _ (.cons _ (List.Sublist.refl _)))))) hh)))) (fun hh =>
(hq _ _ _ (s.keep (.cons _ (.cons _ (.cons _ (.cons _ (List.Sublist.refl _)))))) hh)))) s hh)) (fun hh =>
(demesnelaw04_awake_pro (fun b40 _ _ s hh =>
(bsel_pro hh (fun hh =>
(bsel_pro hh (fun hh =>
(box_B (i := 1) s rfl rfl
(bsel_pro hh (fun hh =>
(box_I (i := 1) s rfl rfl
(bsel_pro hh (fun hh =>
(box_B (i := 1) s rfl rfl
(box_B (i := 3) s rfl rfl
(hq _ _ _ (s.keep (.cons _ (.cons _ (.cons _ (.cons _ (List.Sublist.refl _)))))) hh)))) (fun hh =>
(hq _ _ _ (s.keep (.cons _ (.cons _ (.cons _ (.cons _ (List.Sublist.refl _)))))) hh))))) (fun hh =>
(hq _ _ _ (s.keep (.cons _ (.cons _ (.cons _ (.cons _ (List.Sublist.refl _)))))) hh))))) (fun hh =>
(hq _ _ _ (s.keep (.cons _ (.cons _ (.cons _ (.cons _ (List.Sublist.refl _)))))) hh)))) (fun hh =>
(hq _ _ _ (s.keep (.cons _ (.cons _ (.cons _ (.cons _ (List.Sublist.refl _)))))) hh)))) s hh))))))))))))))))) s hh)))))))))))) s hh))),
(bsel_pro hh (fun hh =>
(bsel_pro hh (fun hh => hh) (fun hh =>
⟨_, s, hh⟩))) (fun hh =>
⟨_, s, hh⟩))⟩))))))))))))))

end Go.Dn
