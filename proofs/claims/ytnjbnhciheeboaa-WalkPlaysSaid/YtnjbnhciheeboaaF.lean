/- Printed by gen.py: what each function does, as a predicate over the heap. -/
import Derived.Test.YtnjbnhciheeboaaDnK
namespace Go.Dn

abbrev ty_abi_BoundsErrorCode : Nat := 6
abbrev ty_runtime_boundsError : Nat := 8
abbrev ty_runtime_errorString : Nat := 10
abbrev ty_runtime_plainError : Nat := 11
abbrev ty_runtime_errorAddressString : Nat := 14
abbrev ty_maps_unhashableTypeError : Nat := 19
abbrev ty_demesneref01_RAM : Nat := 28
abbrev ty_api_Access : Nat := 34
abbrev ty_demesnelaw04_Step : Nat := 36
abbrev ty_api_Perm : Nat := 38
abbrev ty_walk_Found : Nat := 40
abbrev ty_api_Fault : Nat := 42
abbrev ty_api_Errno : Nat := 43
abbrev ty_demesneref04_Found : Nat := 47
abbrev ty_demesnelaw04_Put : Nat := 60
abbrev ty_api_Range : Nat := 65
abbrev ty_walk_stop : Nat := 71
abbrev ty_walk_walker : Nat := 77
abbrev ty_pte_Entry : Nat := 85
abbrev ty_demesneref03_Entry : Nat := 92
abbrev ty_ram_RAM : Nat := 100
abbrev ty_runtime_TypeAssertionError : Nat := 112
abbrev ty_runtime_PanicNilError : Nat := 115
abbrev ty_abi_TFlag : Nat := 118
abbrev ty_abi_Kind : Nat := 119
abbrev ty_abi_NameOff : Nat := 122
abbrev ty_abi_TypeOff : Nat := 123
abbrev ty_abi_Type : Nat := 125
abbrev ty_unsafe_Pointer : Nat := 126

/- demesne/ram.New -/
abbrev ram_New_T := Int → Sl → (Option Addr → Int → Hp → Prop) → Hp → Prop
def ram_New (p0 : Int) (p1 : Sl) (Q : Option Addr → Int → Hp → Prop) (h : Hp) : Prop :=
(bsel (decide (p0 < (1 : Int)))
(Q none (1 : Int) h)
(bsel (decide (p0 > (1048576 : Int)))
(Q none (4 : Int) h)
(bsel (decide ((Int.ofNat p1.len) > (64 : Int)))
(Q none (4 : Int) h)
(∃ I1 : Int → Nat → Hp → Prop, (∃ m2, I1 (0 : Int) m2 h) ∧ ∀ x5 : Int, ∀ m2 h4, I1 x5 m2 h4 → 
(bsel (decide (x5 < (Int.ofNat p1.len)))
(onSome p1.a fun a6 =>
(inB x5 p1.len
(ldI .i64 (Addr.add a6 (Int.toNat x5 * 2)) h4 fun n7 =>
(ldI .i64 (Addr.add (Addr.add a6 (Int.toNat x5 * 2)) 1) h4 fun n8 =>
(newB h4 (.cells #[(.int .i64 (0 : Int)), (.int .i64 (0 : Int))] 65) fun b9 h10 =>
(stC (Addr.mk b9 0 none) (.int .i64 n7) h10 fun h11 =>
(stC (Addr.add (Addr.mk b9 0 none) 1) (.int .i64 n8) h11 fun h12 =>
(ldI .i64 (Addr.mk b9 0 none) h12 fun n13 =>
(bsel (decide (n13 < (0 : Int)))
(Q none (3 : Int) h12)
(ldI .i64 (Addr.add (Addr.mk b9 0 none) 1) h12 fun n14 =>
(ldI .i64 (Addr.mk b9 0 none) h12 fun n15 =>
(bsel (decide (n14 < n15))
(Q none (3 : Int) h12)
(ldI .i64 (Addr.add (Addr.mk b9 0 none) 1) h12 fun n16 =>
(bsel (decide (n16 > p0))
(Q none (3 : Int) h12)
(∃ m3, m3 < m2 ∧ I1 (IntKind.wrap .i64 (x5 + (1 : Int))) m3 h12)))))))))))))))
(apH 2 16 #[(.int .i64 (0 : Int)), (.int .i64 (0 : Int))] 65 Sl.nil p1 h4 fun s17 h18 =>
(newB h18 (.map #[] 0) fun b19 h20 =>
(newB h20 (.cells #[(.int .i64 p0), (.slice s17.a s17.len s17.cap), (.map (some b19))] 100) fun b21 h22 =>
(Q (some (Addr.mk b21 0 none)) (0 : Int) h22)))))))))

/- (*demesne/ram.RAM).Has -/
abbrev ram_RAM_Has_T := Option Addr → Int → (Bool → Hp → Prop) → Hp → Prop
def ram_RAM_Has (p0 : Option Addr) (p1 : Int) (Q : Bool → Hp → Prop) (h : Hp) : Prop :=
(bsel (decide (p1 < (0 : Int)))
(Q false h)
(onSome p0 fun a1 =>
(ldI .i64 a1 h fun n2 =>
(bsel (decide (p1 ≥ n2))
(Q false h)
(onSome p0 fun a3 =>
(ldS (Addr.add a3 1) h fun s4 =>
(∃ I5 : Int → Nat → Hp → Prop, (∃ m6, I5 (0 : Int) m6 h) ∧ ∀ x9 : Int, ∀ m6 h8, I5 x9 m6 h8 → 
(bsel (decide (x9 < (Int.ofNat s4.len)))
(onSome s4.a fun a10 =>
(inB x9 s4.len
(ldI .i64 (Addr.add a10 (Int.toNat x9 * 2)) h8 fun n11 =>
(ldI .i64 (Addr.add (Addr.add a10 (Int.toNat x9 * 2)) 1) h8 fun n12 =>
(newB h8 (.cells #[(.int .i64 (0 : Int)), (.int .i64 (0 : Int))] 65) fun b13 h14 =>
(stC (Addr.mk b13 0 none) (.int .i64 n11) h14 fun h15 =>
(stC (Addr.add (Addr.mk b13 0 none) 1) (.int .i64 n12) h15 fun h16 =>
(ldI .i64 (Addr.mk b13 0 none) h16 fun n17 =>
(bsel (decide (p1 ≥ n17))
(ldI .i64 (Addr.add (Addr.mk b13 0 none) 1) h16 fun n18 =>
(bsel (decide (p1 < n18))
(Q false h16)
(∃ m7, m7 < m6 ∧ I5 (IntKind.wrap .i64 (x9 + (1 : Int))) m7 h16)))
(∃ m7, m7 < m6 ∧ I5 (IntKind.wrap .i64 (x9 + (1 : Int))) m7 h16))))))))))
(Q true h8)))))))))

/- (*demesne/ram.RAM).check -/
abbrev ram_RAM_check_T := Option Addr → Int → Int → (Int → Hp → Prop) → Hp → Prop
def ram_RAM_check_G (f_ram_RAM_Has : ram_RAM_Has_T) (p0 : Option Addr) (p1 : Int) (p2 : Int) (Q : Int → Hp → Prop) (h : Hp) : Prop :=
(∃ R1 : Bool → Hp → Prop, (∀ b2 : Bool, ∀ h3, R1 b2 h3 → 
(bsel b2
(bsel (decide ((IntKind.wrap .u64 ((IntKind.wrap .u64 (p1 + (IntKind.wrap .u64 p2))) - (1 : Int))) < p1))
(Q (2 : Int) h3)
(onSome p0 fun a4 =>
(ldI .i64 a4 h3 fun n5 =>
(bsel (decide ((IntKind.wrap .u64 (Int.tdiv (IntKind.wrap .u64 ((IntKind.wrap .u64 (p1 + (IntKind.wrap .u64 p2))) - (1 : Int))) (4096 : Int))) ≥ (IntKind.wrap .u64 n5)))
(Q (2 : Int) h3)
(f_ram_RAM_Has p0 (IntKind.wrap .i64 (IntKind.wrap .u64 (Int.tdiv p1 (4096 : Int)))) (fun b6 h7 =>
(bsel (!b6)
(Q (2 : Int) h7)
(f_ram_RAM_Has p0 (IntKind.wrap .i64 (IntKind.wrap .u64 (Int.tdiv (IntKind.wrap .u64 ((IntKind.wrap .u64 (p1 + (IntKind.wrap .u64 p2))) - (1 : Int))) (4096 : Int)))) (fun b8 h9 =>
(bsel (!b8)
(Q (2 : Int) h9)
(Q (0 : Int) h9))) h7))) h3)))))
(Q (1 : Int) h3))) ∧
(bsel (p2 == (1 : Int))
(R1 (p2 == (1 : Int)) h)
(bsel (p2 == (2 : Int))
(R1 (p2 == (2 : Int)) h)
(bsel (p2 == (4 : Int))
(R1 (p2 == (4 : Int)) h)
(R1 (p2 == (8 : Int)) h)))))
def ram_RAM_check : ram_RAM_check_T := ram_RAM_check_G ram_RAM_Has

/- (*demesne/ram.RAM).own -/
abbrev ram_RAM_own_T := Option Addr → Int → (Option Addr → Hp → Prop) → Hp → Prop
def ram_RAM_own (p0 : Option Addr) (p1 : Int) (Q : Option Addr → Hp → Prop) (h : Hp) : Prop :=
(onSome p0 fun a1 =>
(ldM (Addr.add a1 2) h fun mp2 =>
(mLk h mp2 .i64 p1 fun o3 =>
(∃ pt4 : Option Addr, ((o3.getD (.pointer none)) : Value) = (.pointer pt4) ∧
(∃ R5 : Option Addr → Hp → Prop, (∀ pt11 : Option Addr, ∀ h12, R5 pt11 h12 → 
(Q pt11 h12)) ∧
(bsel pt4.isNone
(newB h (.cells (Array.replicate 4096 (.int .u8 (0 : Int))) 108) fun b6 h7 =>
(onSome p0 fun a8 =>
(ldM (Addr.add a8 2) h7 fun mp9 =>
(mSt h7 mp9 .i64 p1 (.pointer (some (Addr.mk b6 0 none))) fun h10 =>
(R5 (some (Addr.mk b6 0 none)) h10)))))
(R5 pt4 h)))))))

/- (*demesne/ram.RAM).Store -/
abbrev ram_RAM_Store_T := Option Addr → Int → Int → Int → (Int → Hp → Prop) → Hp → Prop
def ram_RAM_Store_G (f_ram_RAM_check : ram_RAM_check_T) (f_ram_RAM_own : ram_RAM_own_T) (p0 : Option Addr) (p1 : Int) (p2 : Int) (p3 : Int) (Q : Int → Hp → Prop) (h : Hp) : Prop :=
(f_ram_RAM_check p0 p1 p2 (fun n1 h2 =>
(bsel (n1 != (0 : Int))
(Q n1 h2)
(∃ I3 : Int → Nat → Hp → Prop, (∃ m4, I3 (0 : Int) m4 h2) ∧ ∀ x7 : Int, ∀ m4 h6, I3 x7 m4 h6 → 
(bsel (decide (x7 < p2))
(bsel (decide ((IntKind.wrap .i64 ((8 : Int) * x7)) < 0)) False
(f_ram_RAM_own p0 (IntKind.wrap .i64 (IntKind.wrap .u64 (Int.tdiv (IntKind.wrap .u64 (p1 + (IntKind.wrap .u64 x7))) (4096 : Int)))) (fun pt8 h9 =>
(onSome pt8 fun a10 =>
(inB (Int.tmod (IntKind.wrap .u64 (p1 + (IntKind.wrap .u64 x7))) (4096 : Int)) 4096
(stC (Addr.add a10 (Int.toNat (Int.tmod (IntKind.wrap .u64 (p1 + (IntKind.wrap .u64 x7))) (4096 : Int)) * 1)) (.int .u8 (IntKind.wrap .u8 (Int.fdiv p3 (2 ^ (min (Int.toNat (IntKind.wrap .i64 ((8 : Int) * x7))) 64))))) h9 fun h11 =>
(∃ m5, m5 < m4 ∧ I3 (IntKind.wrap .i64 (x7 + (1 : Int))) m5 h11))))) h6))
(Q (0 : Int) h6))))) h)
def ram_RAM_Store : ram_RAM_Store_T := ram_RAM_Store_G ram_RAM_check ram_RAM_own

/- demesne/demesneref01.Store -/
abbrev demesneref01_Store_T := Int → Sl → Option Nat → Int → Int → Int → (Hp → Prop) → Hp → Prop
def demesneref01_Store (p0 : Int) (p1 : Sl) (p2 : Option Nat) (p3 : Int) (p4 : Int) (p5 : Int) (Q : Hp → Prop) (h : Hp) : Prop :=
(newB h (.cells #[(.int .i64 p0), (.slice p1.a p1.len p1.cap), (.map p2)] 28) fun b1 h2 =>
(∃ I3 : Int → Nat → Hp → Prop, (∃ m4, I3 (0 : Int) m4 h2) ∧ ∀ x7 : Int, ∀ m4 h6, I3 x7 m4 h6 → 
(bsel (decide (x7 < p4))
(ldM (Addr.add (Addr.mk b1 0 none) 2) h6 fun mp8 =>
(bsel (decide ((IntKind.wrap .i64 ((8 : Int) * x7)) < 0)) False
(mSt h6 mp8 .u64 (IntKind.wrap .u64 (p3 + (IntKind.wrap .u64 x7))) (.int .u8 (IntKind.wrap .u8 (bits .and .u64 (Int.fdiv p5 (2 ^ (min (Int.toNat (IntKind.wrap .i64 ((8 : Int) * x7))) 64))) (255 : Int)))) fun h9 =>
(∃ m5, m5 < m4 ∧ I3 (IntKind.wrap .i64 (x7 + (1 : Int))) m5 h9))))
(Q h6))))

/- demesne/demesnelaw04.Lay -/
abbrev demesnelaw04_Lay_T := Sl → (Option Addr → Int → Sl → Option Nat → Hp → Prop) → Hp → Prop
def demesnelaw04_Lay_G (f_ram_New : ram_New_T) (f_ram_RAM_Store : ram_RAM_Store_T) (f_demesneref01_Store : demesneref01_Store_T) (p0 : Sl) (Q : Option Addr → Int → Sl → Option Nat → Hp → Prop) (h : Hp) : Prop :=
(newB h (.cells #[(.int .i64 (0 : Int)), (.slice none 0 0), (.map none)] 28) fun b1 h2 =>
(newB h2 (.cells #[(.int .i64 (7 : Int)), (.int .i64 (8 : Int))] 65) fun b3 h4 =>
(newB h4 (.map #[] 0) fun b5 h6 =>
(newB h6 (.cells #[(.int .i64 (0 : Int)), (.slice none 0 0), (.map none)] 28) fun b7 h8 =>
(stC (Addr.mk b7 0 none) (.int .i64 (8 : Int)) h8 fun h9 =>
(stC (Addr.add (Addr.mk b7 0 none) 1) (.slice (some (Addr.mk b3 0 none)) 1 1) h9 fun h10 =>
(stC (Addr.add (Addr.mk b7 0 none) 2) (.map (some b5)) h10 fun h11 =>
(newB h11 (.cells #[(.int .i64 (7 : Int)), (.int .i64 (8 : Int))] 65) fun b12 h13 =>
(f_ram_New (8 : Int) (Sl.mk (some (Addr.mk b12 0 none)) 1 1) (fun pt14 n15 h16 =>
(bsel (n15 != (0 : Int))
(ldI .i64 (Addr.mk b7 0 none) h16 fun n17 =>
(ldS (Addr.add (Addr.mk b7 0 none) 1) h16 fun s18 =>
(ldM (Addr.add (Addr.mk b7 0 none) 2) h16 fun mp19 =>
(stC (Addr.mk b1 0 none) (.int .i64 n17) h16 fun h20 =>
(stC (Addr.add (Addr.mk b1 0 none) 1) (.slice s18.a s18.len s18.cap) h20 fun h21 =>
(stC (Addr.add (Addr.mk b1 0 none) 2) (.map mp19) h21 fun h22 =>
(ldI .i64 (Addr.mk b1 0 none) h22 fun n23 =>
(ldS (Addr.add (Addr.mk b1 0 none) 1) h22 fun s24 =>
(ldM (Addr.add (Addr.mk b1 0 none) 2) h22 fun mp25 =>
(Q none n23 s24 mp25 h22))))))))))
(∃ I26 : Int → Nat → Hp → Prop, (∃ m27, I26 (0 : Int) m27 h16) ∧ ∀ x30 : Int, ∀ m27 h29, I26 x30 m27 h29 → 
(bsel (decide (x30 < (Int.ofNat p0.len)))
(bsel (decide (x30 < (40 : Int)))
(∃ R31 : Hp → Prop, (∀ h55, R31 h55 → 
(∃ m28, m28 < m27 ∧ I26 (IntKind.wrap .i64 (x30 + (1 : Int))) m28 h55)) ∧
(onSome p0.a fun a32 =>
(inB x30 p0.len
(ldI .i64 (Addr.add a32 (Int.toNat x30 * 3)) h29 fun n33 =>
(ldI .i64 (Addr.add (Addr.add a32 (Int.toNat x30 * 3)) 1) h29 fun n34 =>
(ldI .u64 (Addr.add (Addr.add a32 (Int.toNat x30 * 3)) 2) h29 fun n35 =>
(newB h29 (.cells #[(.int .i64 (0 : Int)), (.int .i64 (0 : Int)), (.int .u64 (0 : Int))] 60) fun b36 h37 =>
(stC (Addr.mk b36 0 none) (.int .i64 n33) h37 fun h38 =>
(stC (Addr.add (Addr.mk b36 0 none) 1) (.int .i64 n34) h38 fun h39 =>
(stC (Addr.add (Addr.mk b36 0 none) 2) (.int .u64 n35) h39 fun h40 =>
(ldI .i64 (Addr.mk b36 0 none) h40 fun n41 =>
(bsel (decide (n41 < (0 : Int)))
(R31 h40)
(ldI .i64 (Addr.mk b36 0 none) h40 fun n42 =>
(bsel (decide (n42 > (7 : Int)))
(R31 h40)
(ldI .i64 (Addr.add (Addr.mk b36 0 none) 1) h40 fun n43 =>
(bsel (decide (n43 < (0 : Int)))
(R31 h40)
(ldI .i64 (Addr.add (Addr.mk b36 0 none) 1) h40 fun n44 =>
(bsel (decide (n44 > (511 : Int)))
(R31 h40)
(ldI .i64 (Addr.mk b36 0 none) h40 fun n45 =>
(ldI .i64 (Addr.add (Addr.mk b36 0 none) 1) h40 fun n46 =>
(ldI .u64 (Addr.add (Addr.mk b36 0 none) 2) h40 fun n47 =>
(f_ram_RAM_Store pt14 (IntKind.wrap .u64 ((IntKind.wrap .u64 ((IntKind.wrap .u64 n45) * (4096 : Int))) + (IntKind.wrap .u64 (IntKind.wrap .i64 ((8 : Int) * n46))))) (8 : Int) n47 (fun n48 h49 =>
(bsel (n48 == (0 : Int))
(ldI .i64 (Addr.mk b7 0 none) h49 fun n50 =>
(ldS (Addr.add (Addr.mk b7 0 none) 1) h49 fun s51 =>
(ldM (Addr.add (Addr.mk b7 0 none) 2) h49 fun mp52 =>
(ldI .u64 (Addr.add (Addr.mk b36 0 none) 2) h49 fun n53 =>
(f_demesneref01_Store n50 s51 mp52 (IntKind.wrap .u64 ((IntKind.wrap .u64 ((IntKind.wrap .u64 n45) * (4096 : Int))) + (IntKind.wrap .u64 (IntKind.wrap .i64 ((8 : Int) * n46))))) (8 : Int) n53 (fun  h54 =>
(R31 h54)) h49)))))
(R31 h49))) h40))))))))))))))))))))))
(ldI .i64 (Addr.mk b7 0 none) h29 fun n56 =>
(ldS (Addr.add (Addr.mk b7 0 none) 1) h29 fun s57 =>
(ldM (Addr.add (Addr.mk b7 0 none) 2) h29 fun mp58 =>
(stC (Addr.mk b1 0 none) (.int .i64 n56) h29 fun h59 =>
(stC (Addr.add (Addr.mk b1 0 none) 1) (.slice s57.a s57.len s57.cap) h59 fun h60 =>
(stC (Addr.add (Addr.mk b1 0 none) 2) (.map mp58) h60 fun h61 =>
(ldI .i64 (Addr.mk b1 0 none) h61 fun n62 =>
(ldS (Addr.add (Addr.mk b1 0 none) 1) h61 fun s63 =>
(ldM (Addr.add (Addr.mk b1 0 none) 2) h61 fun mp64 =>
(Q pt14 n62 s63 mp64 h61)))))))))))
(ldI .i64 (Addr.mk b7 0 none) h29 fun n65 =>
(ldS (Addr.add (Addr.mk b7 0 none) 1) h29 fun s66 =>
(ldM (Addr.add (Addr.mk b7 0 none) 2) h29 fun mp67 =>
(stC (Addr.mk b1 0 none) (.int .i64 n65) h29 fun h68 =>
(stC (Addr.add (Addr.mk b1 0 none) 1) (.slice s66.a s66.len s66.cap) h68 fun h69 =>
(stC (Addr.add (Addr.mk b1 0 none) 2) (.map mp67) h69 fun h70 =>
(ldI .i64 (Addr.mk b1 0 none) h70 fun n71 =>
(ldS (Addr.add (Addr.mk b1 0 none) 1) h70 fun s72 =>
(ldM (Addr.add (Addr.mk b1 0 none) 2) h70 fun mp73 =>
(Q pt14 n71 s72 mp73 h70)))))))))))))) h13)))))))))
def demesnelaw04_Lay : demesnelaw04_Lay_T := demesnelaw04_Lay_G ram_New ram_RAM_Store demesneref01_Store

/- demesne/walk.May -/
abbrev walk_May_T := Bool → Bool → Bool → Bool → Bool → Bool → (Bool → Hp → Prop) → Hp → Prop
def walk_May (p0 : Bool) (p1 : Bool) (p2 : Bool) (p3 : Bool) (p4 : Bool) (p5 : Bool) (Q : Bool → Hp → Prop) (h : Hp) : Prop :=
(newB h (.cells #[(.bool p0), (.bool p1), (.bool p2)] 38) fun b1 h2 =>
(newB h2 (.cells #[(.bool p3), (.bool p4), (.bool p5)] 34) fun b3 h4 =>
(ldB (Addr.mk b3 0 none) h4 fun b5 =>
(bsel b5
(ldB (Addr.mk b1 0 none) h4 fun b6 =>
(bsel (!b6)
(Q false h4)
(ldB (Addr.add (Addr.mk b3 0 none) 1) h4 fun b7 =>
(bsel b7
(ldB (Addr.add (Addr.mk b1 0 none) 1) h4 fun b8 =>
(bsel (!b8)
(Q false h4)
(ldB (Addr.add (Addr.mk b3 0 none) 2) h4 fun b9 =>
(bsel b9
(ldB (Addr.add (Addr.mk b1 0 none) 2) h4 fun b10 =>
(Q (!(!b10)) h4))
(Q true h4)))))
(ldB (Addr.add (Addr.mk b3 0 none) 2) h4 fun b11 =>
(bsel b11
(ldB (Addr.add (Addr.mk b1 0 none) 2) h4 fun b12 =>
(Q (!(!b12)) h4))
(Q true h4)))))))
(ldB (Addr.add (Addr.mk b3 0 none) 1) h4 fun b13 =>
(bsel b13
(ldB (Addr.add (Addr.mk b1 0 none) 1) h4 fun b14 =>
(bsel (!b14)
(Q false h4)
(ldB (Addr.add (Addr.mk b3 0 none) 2) h4 fun b15 =>
(bsel b15
(ldB (Addr.add (Addr.mk b1 0 none) 2) h4 fun b16 =>
(Q (!(!b16)) h4))
(Q true h4)))))
(ldB (Addr.add (Addr.mk b3 0 none) 2) h4 fun b17 =>
(bsel b17
(ldB (Addr.add (Addr.mk b1 0 none) 2) h4 fun b18 =>
(Q (!(!b18)) h4))
(Q true h4)))))))))

/- demesne/pte.Canonical -/
abbrev pte_Canonical_T := Int → (Bool → Hp → Prop) → Hp → Prop
def pte_Canonical (p0 : Int) (Q : Bool → Hp → Prop) (h : Hp) : Prop :=
(bsel ((Int.fdiv p0 (2 ^ (47 : Nat))) == (0 : Int))
(Q true h)
(Q ((Int.fdiv p0 (2 ^ (47 : Nat))) == (131071 : Int)) h))

/- demesne/pte.Split -/
abbrev pte_Split_T := Int → (Int → Int → Int → Int → Int → Hp → Prop) → Hp → Prop
def pte_Split (p0 : Int) (Q : Int → Int → Int → Int → Int → Hp → Prop) (h : Hp) : Prop :=
(newB h (.cells #[(.int .i64 (0 : Int)), (.int .i64 (0 : Int)), (.int .i64 (0 : Int)), (.int .i64 (0 : Int))] 78) fun b1 h2 =>
(newB h2 (.cells #[(.int .i64 (0 : Int)), (.int .i64 (0 : Int)), (.int .i64 (0 : Int)), (.int .i64 (0 : Int))] 78) fun b3 h4 =>
(∃ I5 : Int → Nat → Hp → Prop, (∃ m6, I5 (0 : Int) m6 h4) ∧ ∀ x9 : Int, ∀ m6 h8, I5 x9 m6 h8 → 
(bsel (decide (x9 < (4 : Int)))
(bsel (decide ((IntKind.wrap .i64 ((39 : Int) - (IntKind.wrap .i64 ((9 : Int) * x9)))) < 0)) False
(inB x9 4
(stC (Addr.add (Addr.mk b3 0 none) (Int.toNat x9 * 1)) (.int .i64 (IntKind.wrap .i64 (bits .and .u64 (Int.fdiv p0 (2 ^ (min (Int.toNat (IntKind.wrap .i64 ((39 : Int) - (IntKind.wrap .i64 ((9 : Int) * x9))))) 64))) (511 : Int)))) h8 fun h10 =>
(∃ m7, m7 < m6 ∧ I5 (IntKind.wrap .i64 (x9 + (1 : Int))) m7 h10))))
(ldI .i64 (Addr.mk b3 0 none) h8 fun n11 =>
(ldI .i64 (Addr.add (Addr.mk b3 0 none) 1) h8 fun n12 =>
(ldI .i64 (Addr.add (Addr.mk b3 0 none) 2) h8 fun n13 =>
(ldI .i64 (Addr.add (Addr.mk b3 0 none) 3) h8 fun n14 =>
(stC (Addr.mk b1 0 none) (.int .i64 n11) h8 fun h15 =>
(stC (Addr.add (Addr.mk b1 0 none) 1) (.int .i64 n12) h15 fun h16 =>
(stC (Addr.add (Addr.mk b1 0 none) 2) (.int .i64 n13) h16 fun h17 =>
(stC (Addr.add (Addr.mk b1 0 none) 3) (.int .i64 n14) h17 fun h18 =>
(ldI .i64 (Addr.mk b1 0 none) h18 fun n19 =>
(ldI .i64 (Addr.add (Addr.mk b1 0 none) 1) h18 fun n20 =>
(ldI .i64 (Addr.add (Addr.mk b1 0 none) 2) h18 fun n21 =>
(ldI .i64 (Addr.add (Addr.mk b1 0 none) 3) h18 fun n22 =>
(Q n19 n20 n21 n22 (IntKind.wrap .i64 (bits .and .u64 p0 (4095 : Int))) h18)))))))))))))))))

/- (*demesne/ram.RAM).Load -/
abbrev ram_RAM_Load_T := Option Addr → Int → Int → (Int → Int → Hp → Prop) → Hp → Prop
def ram_RAM_Load_G (f_ram_RAM_check : ram_RAM_check_T) (p0 : Option Addr) (p1 : Int) (p2 : Int) (Q : Int → Int → Hp → Prop) (h : Hp) : Prop :=
(f_ram_RAM_check p0 p1 p2 (fun n1 h2 =>
(bsel (n1 != (0 : Int))
(Q (0 : Int) n1 h2)
(∃ I3 : Int → Int → Nat → Hp → Prop, (∃ m4, I3 (0 : Int) (IntKind.wrap .i64 (p2 - (1 : Int))) m4 h2) ∧ ∀ x7 : Int, ∀ x8 : Int, ∀ m4 h6, I3 x7 x8 m4 h6 → 
(bsel (decide (x8 ≥ (0 : Int)))
(∃ R9 : Int → Hp → Prop, (∀ x16 : Int, ∀ h17, R9 x16 h17 → 
(∃ m5, m5 < m4 ∧ I3 x16 (IntKind.wrap .i64 (x8 - (1 : Int))) m5 h17)) ∧
(onSome p0 fun a10 =>
(ldM (Addr.add a10 2) h6 fun mp11 =>
(mLk h6 mp11 .i64 (IntKind.wrap .i64 (IntKind.wrap .u64 (Int.tdiv (IntKind.wrap .u64 (p1 + (IntKind.wrap .u64 x8))) (4096 : Int)))) fun o12 =>
(∃ pt13 : Option Addr, ((o12.getD (.pointer none)) : Value) = (.pointer pt13) ∧
(bsel (!pt13.isNone)
(onSome pt13 fun a14 =>
(inB (Int.tmod (IntKind.wrap .u64 (p1 + (IntKind.wrap .u64 x8))) (4096 : Int)) 4096
(ldI .u8 (Addr.add a14 (Int.toNat (Int.tmod (IntKind.wrap .u64 (p1 + (IntKind.wrap .u64 x8))) (4096 : Int)) * 1)) h6 fun n15 =>
(R9 (bits .or .u64 (IntKind.wrap .u64 (x7 * 2 ^ (8 : Nat))) (IntKind.wrap .u64 n15)) h6))))
(R9 (IntKind.wrap .u64 (x7 * 2 ^ (8 : Nat))) h6)))))))
(Q x7 (0 : Int) h6))))) h)
def ram_RAM_Load : ram_RAM_Load_T := ram_RAM_Load_G ram_RAM_check

/- (*demesne/pte.Entry).flags -/
abbrev pte_Entry_flags_T := Option Addr → (Option Addr → Option Addr → Option Addr → Option Addr → Option Addr → Option Addr → Option Addr → Option Addr → Hp → Prop) → Hp → Prop
def pte_Entry_flags (p0 : Option Addr) (Q : Option Addr → Option Addr → Option Addr → Option Addr → Option Addr → Option Addr → Option Addr → Option Addr → Hp → Prop) (h : Hp) : Prop :=
(newB h (.cells #[(.pointer none), (.pointer none), (.pointer none), (.pointer none), (.pointer none), (.pointer none), (.pointer none), (.pointer none)] 103) fun b1 h2 =>
(onSome p0 fun a3 =>
(onSome p0 fun a4 =>
(onSome p0 fun a5 =>
(onSome p0 fun a6 =>
(onSome p0 fun a7 =>
(onSome p0 fun a8 =>
(onSome p0 fun a9 =>
(onSome p0 fun a10 =>
(stC (Addr.mk b1 0 none) (.pointer (some a3)) h2 fun h11 =>
(stC (Addr.add (Addr.mk b1 0 none) 1) (.pointer (some (Addr.add a4 1))) h11 fun h12 =>
(stC (Addr.add (Addr.mk b1 0 none) 2) (.pointer (some (Addr.add a5 2))) h12 fun h13 =>
(stC (Addr.add (Addr.mk b1 0 none) 3) (.pointer (some (Addr.add a6 3))) h13 fun h14 =>
(stC (Addr.add (Addr.mk b1 0 none) 4) (.pointer (some (Addr.add a7 4))) h14 fun h15 =>
(stC (Addr.add (Addr.mk b1 0 none) 5) (.pointer (some (Addr.add a8 5))) h15 fun h16 =>
(stC (Addr.add (Addr.mk b1 0 none) 6) (.pointer (some (Addr.add a9 6))) h16 fun h17 =>
(stC (Addr.add (Addr.mk b1 0 none) 7) (.pointer (some (Addr.add a10 7))) h17 fun h18 =>
(ldP (Addr.mk b1 0 none) h18 fun pt19 =>
(ldP (Addr.add (Addr.mk b1 0 none) 1) h18 fun pt20 =>
(ldP (Addr.add (Addr.mk b1 0 none) 2) h18 fun pt21 =>
(ldP (Addr.add (Addr.mk b1 0 none) 3) h18 fun pt22 =>
(ldP (Addr.add (Addr.mk b1 0 none) 4) h18 fun pt23 =>
(ldP (Addr.add (Addr.mk b1 0 none) 5) h18 fun pt24 =>
(ldP (Addr.add (Addr.mk b1 0 none) 6) h18 fun pt25 =>
(ldP (Addr.add (Addr.mk b1 0 none) 7) h18 fun pt26 =>
(Q pt19 pt20 pt21 pt22 pt23 pt24 pt25 pt26 h18))))))))))))))))))))))))))

/- demesne/pte.places -/
abbrev pte_places_T := (Int → Int → Int → Int → Int → Int → Int → Int → Hp → Prop) → Hp → Prop
def pte_places (Q : Int → Int → Int → Int → Int → Int → Int → Int → Hp → Prop) (h : Hp) : Prop :=
(newB h (.cells #[(.int .i64 (0 : Int)), (.int .i64 (0 : Int)), (.int .i64 (0 : Int)), (.int .i64 (0 : Int)), (.int .i64 (0 : Int)), (.int .i64 (0 : Int)), (.int .i64 (0 : Int)), (.int .i64 (0 : Int))] 105) fun b1 h2 =>
(stC (Addr.mk b1 0 none) (.int .i64 (0 : Int)) h2 fun h3 =>
(stC (Addr.add (Addr.mk b1 0 none) 1) (.int .i64 (1 : Int)) h3 fun h4 =>
(stC (Addr.add (Addr.mk b1 0 none) 2) (.int .i64 (2 : Int)) h4 fun h5 =>
(stC (Addr.add (Addr.mk b1 0 none) 3) (.int .i64 (5 : Int)) h5 fun h6 =>
(stC (Addr.add (Addr.mk b1 0 none) 4) (.int .i64 (6 : Int)) h6 fun h7 =>
(stC (Addr.add (Addr.mk b1 0 none) 5) (.int .i64 (7 : Int)) h7 fun h8 =>
(stC (Addr.add (Addr.mk b1 0 none) 6) (.int .i64 (8 : Int)) h8 fun h9 =>
(stC (Addr.add (Addr.mk b1 0 none) 7) (.int .i64 (63 : Int)) h9 fun h10 =>
(ldI .i64 (Addr.mk b1 0 none) h10 fun n11 =>
(ldI .i64 (Addr.add (Addr.mk b1 0 none) 1) h10 fun n12 =>
(ldI .i64 (Addr.add (Addr.mk b1 0 none) 2) h10 fun n13 =>
(ldI .i64 (Addr.add (Addr.mk b1 0 none) 3) h10 fun n14 =>
(ldI .i64 (Addr.add (Addr.mk b1 0 none) 4) h10 fun n15 =>
(ldI .i64 (Addr.add (Addr.mk b1 0 none) 5) h10 fun n16 =>
(ldI .i64 (Addr.add (Addr.mk b1 0 none) 6) h10 fun n17 =>
(ldI .i64 (Addr.add (Addr.mk b1 0 none) 7) h10 fun n18 =>
(Q n11 n12 n13 n14 n15 n16 n17 n18 h10))))))))))))))))))

/- demesne/pte.Unpack -/
abbrev pte_Unpack_T := Int → (Bool → Bool → Bool → Bool → Bool → Bool → Bool → Bool → Int → Hp → Prop) → Hp → Prop
def pte_Unpack_G (f_pte_Entry_flags : pte_Entry_flags_T) (f_pte_places : pte_places_T) (p0 : Int) (Q : Bool → Bool → Bool → Bool → Bool → Bool → Bool → Bool → Int → Hp → Prop) (h : Hp) : Prop :=
(newB h (.cells #[(.bool false), (.bool false), (.bool false), (.bool false), (.bool false), (.bool false), (.bool false), (.bool false), (.int .i64 (0 : Int))] 85) fun b1 h2 =>
(newB h2 (.cells #[(.bool false), (.bool false), (.bool false), (.bool false), (.bool false), (.bool false), (.bool false), (.bool false), (.int .i64 (0 : Int))] 85) fun b3 h4 =>
(stC (Addr.mk b3 0 none) (.bool false) h4 fun h5 =>
(stC (Addr.add (Addr.mk b3 0 none) 1) (.bool false) h5 fun h6 =>
(stC (Addr.add (Addr.mk b3 0 none) 2) (.bool false) h6 fun h7 =>
(stC (Addr.add (Addr.mk b3 0 none) 3) (.bool false) h7 fun h8 =>
(stC (Addr.add (Addr.mk b3 0 none) 4) (.bool false) h8 fun h9 =>
(stC (Addr.add (Addr.mk b3 0 none) 5) (.bool false) h9 fun h10 =>
(stC (Addr.add (Addr.mk b3 0 none) 6) (.bool false) h10 fun h11 =>
(stC (Addr.add (Addr.mk b3 0 none) 7) (.bool false) h11 fun h12 =>
(stC (Addr.add (Addr.mk b3 0 none) 8) (.int .i64 (IntKind.wrap .i64 (bits .and .u64 (Int.fdiv p0 (2 ^ (12 : Nat))) (1048575 : Int)))) h12 fun h13 =>
(f_pte_Entry_flags (some (Addr.mk b3 0 none)) (fun pt14 pt15 pt16 pt17 pt18 pt19 pt20 pt21 h22 =>
(∃ I23 : Int → Nat → Hp → Prop, (∃ m24, I23 (0 : Int) m24 h22) ∧ ∀ x27 : Int, ∀ m24 h26, I23 x27 m24 h26 → 
(bsel (decide (x27 < (8 : Int)))
(inB x27 8
(geP [(.pointer pt14), (.pointer pt15), (.pointer pt16), (.pointer pt17), (.pointer pt18), (.pointer pt19), (.pointer pt20), (.pointer pt21)] (Int.toNat x27) fun n28 =>
(f_pte_places  (fun n29 n30 n31 n32 n33 n34 n35 n36 h37 =>
(inB x27 8
(geI .i64 [(.int .i64 n29), (.int .i64 n30), (.int .i64 n31), (.int .i64 n32), (.int .i64 n33), (.int .i64 n34), (.int .i64 n35), (.int .i64 n36)] (Int.toNat x27) fun n38 =>
(bsel (decide (n38 < 0)) False
(onSome n28 fun a39 =>
(stC a39 (.bool ((bits .and .u64 (Int.fdiv p0 (2 ^ (min (Int.toNat n38) 64))) (1 : Int)) == (1 : Int))) h37 fun h40 =>
(∃ m25, m25 < m24 ∧ I23 (IntKind.wrap .i64 (x27 + (1 : Int))) m25 h40))))))) h26)))
(ldB (Addr.mk b3 0 none) h26 fun b41 =>
(ldB (Addr.add (Addr.mk b3 0 none) 1) h26 fun b42 =>
(ldB (Addr.add (Addr.mk b3 0 none) 2) h26 fun b43 =>
(ldB (Addr.add (Addr.mk b3 0 none) 3) h26 fun b44 =>
(ldB (Addr.add (Addr.mk b3 0 none) 4) h26 fun b45 =>
(ldB (Addr.add (Addr.mk b3 0 none) 5) h26 fun b46 =>
(ldB (Addr.add (Addr.mk b3 0 none) 6) h26 fun b47 =>
(ldB (Addr.add (Addr.mk b3 0 none) 7) h26 fun b48 =>
(ldI .i64 (Addr.add (Addr.mk b3 0 none) 8) h26 fun n49 =>
(stC (Addr.mk b1 0 none) (.bool b41) h26 fun h50 =>
(stC (Addr.add (Addr.mk b1 0 none) 1) (.bool b42) h50 fun h51 =>
(stC (Addr.add (Addr.mk b1 0 none) 2) (.bool b43) h51 fun h52 =>
(stC (Addr.add (Addr.mk b1 0 none) 3) (.bool b44) h52 fun h53 =>
(stC (Addr.add (Addr.mk b1 0 none) 4) (.bool b45) h53 fun h54 =>
(stC (Addr.add (Addr.mk b1 0 none) 5) (.bool b46) h54 fun h55 =>
(stC (Addr.add (Addr.mk b1 0 none) 6) (.bool b47) h55 fun h56 =>
(stC (Addr.add (Addr.mk b1 0 none) 7) (.bool b48) h56 fun h57 =>
(stC (Addr.add (Addr.mk b1 0 none) 8) (.int .i64 n49) h57 fun h58 =>
(ldB (Addr.mk b1 0 none) h58 fun b59 =>
(ldB (Addr.add (Addr.mk b1 0 none) 1) h58 fun b60 =>
(ldB (Addr.add (Addr.mk b1 0 none) 2) h58 fun b61 =>
(ldB (Addr.add (Addr.mk b1 0 none) 3) h58 fun b62 =>
(ldB (Addr.add (Addr.mk b1 0 none) 4) h58 fun b63 =>
(ldB (Addr.add (Addr.mk b1 0 none) 5) h58 fun b64 =>
(ldB (Addr.add (Addr.mk b1 0 none) 6) h58 fun b65 =>
(ldB (Addr.add (Addr.mk b1 0 none) 7) h58 fun b66 =>
(ldI .i64 (Addr.add (Addr.mk b1 0 none) 8) h58 fun n67 =>
(Q b59 b60 b61 b62 b63 b64 b65 b66 n67 h58))))))))))))))))))))))))))))))) h13))))))))))))
def pte_Unpack : pte_Unpack_T := pte_Unpack_G pte_Entry_flags pte_places

/- (*demesne/walk.walker).fault -/
abbrev walk_walker_fault_T := Option Addr → Int → (Hp → Prop) → (Value → Hp → Prop) → Hp → Prop
def walk_walker_fault (p0 : Option Addr) (p1 : Int) (_Q : Hp → Prop) (Kp : Value → Hp → Prop) (h : Hp) : Prop :=
(∃ R1 : Int → Hp → Prop, (∀ x4 : Int, ∀ h5, R1 x4 h5 → 
(∃ R6 : Int → Hp → Prop, (∀ x9 : Int, ∀ h10, R6 x9 h10 → 
(∃ R11 : Int → Hp → Prop, (∀ x14 : Int, ∀ h15, R11 x14 h15 → 
(onSome p0 fun a16 =>
(ldI .u64 (Addr.add a16 1) h15 fun n17 =>
(Kp (.iface 71 (.agg #[(.int .u64 n17), (.int .i64 x14), (.int .i64 (9 : Int))])) h15)))) ∧
(onSome p0 fun a12 =>
(ldB (Addr.add (Addr.add a12 2) 2) h10 fun b13 =>
(bsel b13
(R11 (bits .or .i64 x9 (16 : Int)) h10)
(R11 x9 h10)))))) ∧
(onSome p0 fun a7 =>
(ldB (Addr.add (Addr.add a7 2) 1) h5 fun b8 =>
(bsel b8
(R6 (bits .or .i64 x4 (4 : Int)) h5)
(R6 x4 h5)))))) ∧
(onSome p0 fun a2 =>
(ldB (Addr.add a2 2) h fun b3 =>
(bsel b3
(R1 (bits .or .i64 p1 (2 : Int)) h)
(R1 p1 h)))))

/- demesne/pte.Reserved -/
abbrev pte_Reserved_T := Int → Int → (Bool → Hp → Prop) → Hp → Prop
def pte_Reserved (p0 : Int) (p1 : Int) (Q : Bool → Hp → Prop) (h : Hp) : Prop :=
(bsel ((bits .and .u64 p0 (1 : Int)) == (0 : Int))
(Q false h)
(bsel ((bits .and .u64 (Int.fdiv p0 (2 ^ (32 : Nat))) (1048575 : Int)) != (0 : Int))
(Q true h)
(bsel (decide (p1 ≥ (3 : Int)))
(Q ((bits .and .u64 (Int.fdiv p0 (2 ^ (7 : Nat))) (1 : Int)) == (1 : Int)) h)
(bsel (p1 == (2 : Int))
(bsel ((bits .and .u64 (Int.fdiv p0 (2 ^ (7 : Nat))) (1 : Int)) == (1 : Int))
(Q ((bits .and .u64 (Int.fdiv p0 (2 ^ (12 : Nat))) (511 : Int)) != (0 : Int)) h)
(Q false h))
(Q false h)))))

/- (*demesne/walk.walker).entry -/
abbrev walk_walker_entry_T := Option Addr → Int → Int → Int → (Int → Int → Hp → Prop) → (Value → Hp → Prop) → Hp → Prop
def walk_walker_entry_G (f_ram_RAM_Load : ram_RAM_Load_T) (f_pte_Unpack : pte_Unpack_T) (f_walk_walker_fault : walk_walker_fault_T) (f_pte_Reserved : pte_Reserved_T) (p0 : Option Addr) (p1 : Int) (p2 : Int) (p3 : Int) (Q : Int → Int → Hp → Prop) (Kp : Value → Hp → Prop) (h : Hp) : Prop :=
(onSome p0 fun a1 =>
(ldP a1 h fun pt2 =>
(f_ram_RAM_Load pt2 (IntKind.wrap .u64 ((IntKind.wrap .u64 ((IntKind.wrap .u64 p1) * (4096 : Int))) + (IntKind.wrap .u64 (IntKind.wrap .i64 ((8 : Int) * p2))))) (8 : Int) (fun n3 n4 h5 =>
(∃ R6 : Hp → Prop, (∀ h7, R6 h7 → 
(∃ R8 : Hp → Prop, (∀ h12, R8 h12 → 
(∃ R13 : Hp → Prop, (∀ h19, R13 h19 → 
(f_pte_Unpack n3 (fun b20 b21 b22 b23 b24 b25 b26 b27 n28 h29 =>
(newB h29 (.cells #[(.bool false), (.bool false), (.bool false), (.bool false), (.bool false), (.bool false), (.bool false), (.bool false), (.int .i64 (0 : Int))] 85) fun b30 h31 =>
(stC (Addr.mk b30 0 none) (.bool b20) h31 fun h32 =>
(stC (Addr.add (Addr.mk b30 0 none) 1) (.bool b21) h32 fun h33 =>
(stC (Addr.add (Addr.mk b30 0 none) 2) (.bool b22) h33 fun h34 =>
(stC (Addr.add (Addr.mk b30 0 none) 3) (.bool b23) h34 fun h35 =>
(stC (Addr.add (Addr.mk b30 0 none) 4) (.bool b24) h35 fun h36 =>
(stC (Addr.add (Addr.mk b30 0 none) 5) (.bool b25) h36 fun h37 =>
(stC (Addr.add (Addr.mk b30 0 none) 6) (.bool b26) h37 fun h38 =>
(stC (Addr.add (Addr.mk b30 0 none) 7) (.bool b27) h38 fun h39 =>
(stC (Addr.add (Addr.mk b30 0 none) 8) (.int .i64 n28) h39 fun h40 =>
(∃ R41 : Hp → Prop, (∀ h49, R41 h49 → 
(∃ R50 : Hp → Prop, (∀ h58, R50 h58 → 
(onSome p0 fun a59 =>
(ldB (Addr.add (Addr.add a59 5) 2) h58 fun b60 =>
(bsel b60
(ldB (Addr.add (Addr.mk b30 0 none) 7) h58 fun b61 =>
(onSome p0 fun a62 =>
(stC (Addr.add (Addr.add a62 5) 2) (.bool (!b61)) h58 fun h63 =>
(Q n3 (IntKind.wrap .u64 ((IntKind.wrap .u64 ((IntKind.wrap .u64 p1) * (4096 : Int))) + (IntKind.wrap .u64 (IntKind.wrap .i64 ((8 : Int) * p2))))) h63))))
(onSome p0 fun a64 =>
(stC (Addr.add (Addr.add a64 5) 2) (.bool false) h58 fun h65 =>
(Q n3 (IntKind.wrap .u64 ((IntKind.wrap .u64 ((IntKind.wrap .u64 p1) * (4096 : Int))) + (IntKind.wrap .u64 (IntKind.wrap .i64 ((8 : Int) * p2))))) h65))))))) ∧
(onSome p0 fun a51 =>
(ldB (Addr.add (Addr.add a51 5) 1) h49 fun b52 =>
(bsel b52
(ldB (Addr.add (Addr.mk b30 0 none) 2) h49 fun b53 =>
(onSome p0 fun a54 =>
(stC (Addr.add (Addr.add a54 5) 1) (.bool b53) h49 fun h55 =>
(R50 h55))))
(onSome p0 fun a56 =>
(stC (Addr.add (Addr.add a56 5) 1) (.bool false) h49 fun h57 =>
(R50 h57)))))))) ∧
(onSome p0 fun a42 =>
(ldB (Addr.add a42 5) h40 fun b43 =>
(bsel b43
(ldB (Addr.add (Addr.mk b30 0 none) 1) h40 fun b44 =>
(onSome p0 fun a45 =>
(stC (Addr.add a45 5) (.bool b44) h40 fun h46 =>
(R41 h46))))
(onSome p0 fun a47 =>
(stC (Addr.add a47 5) (.bool false) h40 fun h48 =>
(R41 h48)))))))))))))))))) h19)) ∧
(f_pte_Reserved n3 p3 (fun b14 h15 =>
(bsel b14
(f_walk_walker_fault p0 (9 : Int) (fun  h16 =>
(R13 h16)) (fun v17 h18 => (Kp v17 h18)) h15)
(R13 h15))) h12))) ∧
(bsel ((bits .and .u64 n3 (1 : Int)) == (0 : Int))
(f_walk_walker_fault p0 (0 : Int) (fun  h9 =>
(R8 h9)) (fun v10 h11 => (Kp v10 h11)) h7)
(R8 h7)))) ∧
(bsel (n4 != (0 : Int))
(Kp (.iface 71 (.agg #[(.int .u64 (0 : Int)), (.int .i64 (0 : Int)), (.int .i64 n4)])) h5)
(R6 h5)))) h)))
def walk_walker_entry : walk_walker_entry_T := walk_walker_entry_G ram_RAM_Load pte_Unpack walk_walker_fault pte_Reserved

/- demesne/walk.mark -/
abbrev walk_mark_T := Option Addr → Sl → Bool → (Hp → Prop) → Hp → Prop
def walk_mark_G (f_ram_RAM_Load : ram_RAM_Load_T) (f_ram_RAM_Store : ram_RAM_Store_T) (p0 : Option Addr) (p1 : Sl) (p2 : Bool) (Q : Hp → Prop) (h : Hp) : Prop :=
(∃ I1 : Int → Nat → Hp → Prop, (∃ m2, I1 (0 : Int) m2 h) ∧ ∀ x5 : Int, ∀ m2 h4, I1 x5 m2 h4 → 
(bsel (decide (x5 < (Int.ofNat p1.len)))
(∃ R6 : Hp → Prop, (∀ h17, R6 h17 → 
(∃ m3, m3 < m2 ∧ I1 (IntKind.wrap .i64 (x5 + (1 : Int))) m3 h17)) ∧
(onSome p1.a fun a7 =>
(inB x5 p1.len
(ldI .u64 (Addr.add a7 (Int.toNat x5 * 1)) h4 fun n8 =>
(f_ram_RAM_Load p0 n8 (8 : Int) (fun n9 n10 h11 =>
(∃ R12 : Int → Hp → Prop, (∀ x13 : Int, ∀ h14, R12 x13 h14 → 
(bsel (x13 != n9)
(f_ram_RAM_Store p0 n8 (8 : Int) x13 (fun n15 h16 =>
(R6 h16)) h14)
(R6 h14))) ∧
(bsel p2
(bsel (x5 == (IntKind.wrap .i64 ((Int.ofNat p1.len) - (1 : Int))))
(R12 (bits .or .u64 (bits .or .u64 n9 (32 : Int)) (64 : Int)) h11)
(R12 (bits .or .u64 n9 (32 : Int)) h11))
(R12 (bits .or .u64 n9 (32 : Int)) h11)))) h4)))))
(Q h4)))
def walk_mark : walk_mark_T := walk_mark_G ram_RAM_Load ram_RAM_Store

/- demesne/walk.Walk$1: where nothing panics; where it recovers -/
abbrev walk_Walk_1_Tn := Option Addr → Option Addr → Option Addr → (Hp → Prop) → Hp → Prop
def walk_Walk_1_n (_p0 : Option Addr) (_p1 : Option Addr) (_p2 : Option Addr) (K : Hp → Prop) (h : Hp) : Prop :=
(newB h (.cells #[(.int .u64 (0 : Int)), (.int .i64 (0 : Int)), (.int .i64 (0 : Int))] 71) fun b1 h2 =>
(stC (Addr.mk b1 0 none) (.int .u64 (0 : Int)) h2 fun h3 =>
(stC (Addr.add (Addr.mk b1 0 none) 1) (.int .i64 (0 : Int)) h3 fun h4 =>
(stC (Addr.add (Addr.mk b1 0 none) 2) (.int .i64 (0 : Int)) h4 fun h5 =>
(K h5)))))
abbrev walk_Walk_1_Tp := Option Addr → Option Addr → Option Addr → Int → Int → Int → (Hp → Prop) → Hp → Prop
def walk_Walk_1_p (p0 : Option Addr) (p1 : Option Addr) (p2 : Option Addr) (y0 : Int) (y1 : Int) (y2 : Int) (K : Hp → Prop) (h : Hp) : Prop :=
(newB h (.cells #[(.int .u64 (0 : Int)), (.int .i64 (0 : Int)), (.int .i64 (0 : Int))] 71) fun b1 h2 =>
(stC (Addr.mk b1 0 none) (.int .u64 y0) h2 fun h3 =>
(stC (Addr.add (Addr.mk b1 0 none) 1) (.int .i64 y1) h3 fun h4 =>
(stC (Addr.add (Addr.mk b1 0 none) 2) (.int .i64 y2) h4 fun h5 =>
(∃ S6 : Hp → Prop, S6 h5 ∧
(ldI .u64 (Addr.mk b1 0 none) h5 fun n7 =>
(ldI .i64 (Addr.add (Addr.mk b1 0 none) 1) h5 fun n8 =>
(S6 h5 ∧ (∀ h25 : Hp, S6 h25 → (ldI .u64 (Addr.mk b1 0 none) h25 fun n26 =>
(ldI .i64 (Addr.add (Addr.mk b1 0 none) 1) h25 fun n27 =>
(((.agg #[(.int .u64 n26), (.int .i64 n27)]) : Value) = (.agg #[(.int .u64 n7), (.int .i64 n8)]))))) ∧
(ldI .i64 (Addr.add (Addr.mk b1 0 none) 2) h5 fun n9 =>
(S6 h5 ∧ (∀ h23 : Hp, S6 h23 → (ldI .i64 (Addr.add (Addr.mk b1 0 none) 2) h23 fun n24 =>
(((.int .i64 n24) : Value) = (.int .i64 n9)))) ∧
(onSome p0 fun a10 =>
(stC a10 (.int .i64 (0 : Int)) h5 fun h11 =>
(stC (Addr.add a10 1) (.bool false) h11 fun h12 =>
(stC (Addr.add a10 2) (.bool false) h12 fun h13 =>
(stC (Addr.add a10 3) (.bool false) h13 fun h14 =>
(stC (Addr.add a10 4) (.bool false) h14 fun h15 =>
(stC (Addr.add a10 5) (.bool false) h15 fun h16 =>
(stC (Addr.add a10 6) (.bool false) h16 fun h17 =>
(S6 h17 ∧
(onSome p1 fun a18 =>
(stC a18 (.int .u64 n7) h17 fun h19 =>
(stC (Addr.add a18 1) (.int .i64 n8) h19 fun h20 =>
(S6 h20 ∧
(onSome p2 fun a21 =>
(stC a21 (.int .i64 n9) h20 fun h22 =>
(K h22))))))))))))))))))))))))))
/- demesne/walk.Walk -/
abbrev walk_Walk_T := Option Addr → Int → Int → Bool → Bool → Bool → (Int → Bool → Bool → Bool → Bool → Bool → Bool → Int → Int → Int → Hp → Prop) → Hp → Prop
def walk_Walk_G (f_walk_May : walk_May_T) (f_pte_Canonical : pte_Canonical_T) (f_ram_RAM_Has : ram_RAM_Has_T) (f_pte_Split : pte_Split_T) (f_walk_walker_entry : walk_walker_entry_T) (f_pte_Unpack : pte_Unpack_T) (f_walk_walker_fault : walk_walker_fault_T) (f_walk_mark : walk_mark_T) (f_walk_Walk_1_n : walk_Walk_1_Tn) (f_walk_Walk_1_p : walk_Walk_1_Tp) (p0 : Option Addr) (p1 : Int) (p2 : Int) (p3 : Bool) (p4 : Bool) (p5 : Bool) (Q : Int → Bool → Bool → Bool → Bool → Bool → Bool → Int → Int → Int → Hp → Prop) (h : Hp) : Prop :=
(newB h (.cells #[(.bool p3), (.bool p4), (.bool p5)] 34) fun b1 h2 =>
(newB h2 (.cells #[(.int .i64 (0 : Int)), (.bool false), (.bool false), (.bool false), (.bool false), (.bool false), (.bool false)] 40) fun b3 h4 =>
(newB h4 (.cells #[(.int .u64 (0 : Int)), (.int .i64 (0 : Int))] 42) fun b5 h6 =>
(newB h6 (.cells #[(.int .i64 (0 : Int))] 43) fun b7 h8 =>
(f_pte_Canonical p2 (fun b9 h10 =>
(bsel (!b9)
(stC (Addr.mk b3 0 none) (.int .i64 (0 : Int)) h10 fun h11 =>
(stC (Addr.add (Addr.mk b3 0 none) 1) (.bool false) h11 fun h12 =>
(stC (Addr.add (Addr.mk b3 0 none) 2) (.bool false) h12 fun h13 =>
(stC (Addr.add (Addr.mk b3 0 none) 3) (.bool false) h13 fun h14 =>
(stC (Addr.add (Addr.mk b3 0 none) 4) (.bool false) h14 fun h15 =>
(stC (Addr.add (Addr.mk b3 0 none) 5) (.bool false) h15 fun h16 =>
(stC (Addr.add (Addr.mk b3 0 none) 6) (.bool false) h16 fun h17 =>
(stC (Addr.mk b5 0 none) (.int .u64 (0 : Int)) h17 fun h18 =>
(stC (Addr.add (Addr.mk b5 0 none) 1) (.int .i64 (0 : Int)) h18 fun h19 =>
(stC (Addr.mk b7 0 none) (.int .i64 (1 : Int)) h19 fun h20 =>
(f_walk_Walk_1_n (some (Addr.mk b3 0 none)) (some (Addr.mk b5 0 none)) (some (Addr.mk b7 0 none)) (fun h21 =>
(ldI .i64 (Addr.mk b3 0 none) h21 fun n22 =>
(ldB (Addr.add (Addr.mk b3 0 none) 1) h21 fun b23 =>
(ldB (Addr.add (Addr.mk b3 0 none) 2) h21 fun b24 =>
(ldB (Addr.add (Addr.mk b3 0 none) 3) h21 fun b25 =>
(ldB (Addr.add (Addr.mk b3 0 none) 4) h21 fun b26 =>
(ldB (Addr.add (Addr.mk b3 0 none) 5) h21 fun b27 =>
(ldB (Addr.add (Addr.mk b3 0 none) 6) h21 fun b28 =>
(ldI .u64 (Addr.mk b5 0 none) h21 fun n29 =>
(ldI .i64 (Addr.add (Addr.mk b5 0 none) 1) h21 fun n30 =>
(ldI .i64 (Addr.mk b7 0 none) h21 fun n31 =>
(Q n22 b23 b24 b25 b26 b27 b28 n29 n30 n31 h21)))))))))))) h20)))))))))))
(f_ram_RAM_Has p0 p1 (fun b32 h33 =>
(bsel (!b32)
(stC (Addr.mk b3 0 none) (.int .i64 (0 : Int)) h33 fun h34 =>
(stC (Addr.add (Addr.mk b3 0 none) 1) (.bool false) h34 fun h35 =>
(stC (Addr.add (Addr.mk b3 0 none) 2) (.bool false) h35 fun h36 =>
(stC (Addr.add (Addr.mk b3 0 none) 3) (.bool false) h36 fun h37 =>
(stC (Addr.add (Addr.mk b3 0 none) 4) (.bool false) h37 fun h38 =>
(stC (Addr.add (Addr.mk b3 0 none) 5) (.bool false) h38 fun h39 =>
(stC (Addr.add (Addr.mk b3 0 none) 6) (.bool false) h39 fun h40 =>
(stC (Addr.mk b5 0 none) (.int .u64 (0 : Int)) h40 fun h41 =>
(stC (Addr.add (Addr.mk b5 0 none) 1) (.int .i64 (0 : Int)) h41 fun h42 =>
(stC (Addr.mk b7 0 none) (.int .i64 (2 : Int)) h42 fun h43 =>
(f_walk_Walk_1_n (some (Addr.mk b3 0 none)) (some (Addr.mk b5 0 none)) (some (Addr.mk b7 0 none)) (fun h44 =>
(ldI .i64 (Addr.mk b3 0 none) h44 fun n45 =>
(ldB (Addr.add (Addr.mk b3 0 none) 1) h44 fun b46 =>
(ldB (Addr.add (Addr.mk b3 0 none) 2) h44 fun b47 =>
(ldB (Addr.add (Addr.mk b3 0 none) 3) h44 fun b48 =>
(ldB (Addr.add (Addr.mk b3 0 none) 4) h44 fun b49 =>
(ldB (Addr.add (Addr.mk b3 0 none) 5) h44 fun b50 =>
(ldB (Addr.add (Addr.mk b3 0 none) 6) h44 fun b51 =>
(ldI .u64 (Addr.mk b5 0 none) h44 fun n52 =>
(ldI .i64 (Addr.add (Addr.mk b5 0 none) 1) h44 fun n53 =>
(ldI .i64 (Addr.mk b7 0 none) h44 fun n54 =>
(Q n45 b46 b47 b48 b49 b50 b51 n52 n53 n54 h44)))))))))))) h43)))))))))))
(ldB (Addr.mk b1 0 none) h33 fun b55 =>
(ldB (Addr.add (Addr.mk b1 0 none) 1) h33 fun b56 =>
(ldB (Addr.add (Addr.mk b1 0 none) 2) h33 fun b57 =>
(newB h33 (.cells #[(.pointer p0), (.int .u64 p2), (.bool b55), (.bool b56), (.bool b57), (.bool true), (.bool true), (.bool true)] 77) fun b58 h59 =>
(f_pte_Split p2 (fun n60 n61 n62 n63 n64 h65 =>
(newB h65 (.cells #[(.int .i64 (0 : Int)), (.int .i64 (0 : Int)), (.int .i64 (0 : Int)), (.int .i64 (0 : Int))] 78) fun b66 h67 =>
(stC (Addr.mk b66 0 none) (.int .i64 n60) h67 fun h68 =>
(stC (Addr.add (Addr.mk b66 0 none) 1) (.int .i64 n61) h68 fun h69 =>
(stC (Addr.add (Addr.mk b66 0 none) 2) (.int .i64 n62) h69 fun h70 =>
(stC (Addr.add (Addr.mk b66 0 none) 3) (.int .i64 n63) h70 fun h71 =>
(∃ R72 : Sl → Hp → Prop, (∀ s239 : Sl, ∀ h240, R72 s239 h240 → 
(ldB (Addr.mk b1 0 none) h240 fun b241 =>
(f_walk_mark p0 s239 b241 (fun  h242 =>
(ldI .i64 (Addr.mk b3 0 none) h242 fun n243 =>
(ldB (Addr.add (Addr.mk b3 0 none) 1) h242 fun b244 =>
(ldB (Addr.add (Addr.mk b3 0 none) 2) h242 fun b245 =>
(ldB (Addr.add (Addr.mk b3 0 none) 3) h242 fun b246 =>
(ldB (Addr.add (Addr.mk b3 0 none) 4) h242 fun b247 =>
(ldB (Addr.add (Addr.mk b3 0 none) 5) h242 fun b248 =>
(ldB (Addr.add (Addr.mk b3 0 none) 6) h242 fun b249 =>
(stC (Addr.mk b3 0 none) (.int .i64 n243) h242 fun h250 =>
(stC (Addr.add (Addr.mk b3 0 none) 1) (.bool b244) h250 fun h251 =>
(stC (Addr.add (Addr.mk b3 0 none) 2) (.bool b245) h251 fun h252 =>
(stC (Addr.add (Addr.mk b3 0 none) 3) (.bool b246) h252 fun h253 =>
(stC (Addr.add (Addr.mk b3 0 none) 4) (.bool b247) h253 fun h254 =>
(stC (Addr.add (Addr.mk b3 0 none) 5) (.bool b248) h254 fun h255 =>
(stC (Addr.add (Addr.mk b3 0 none) 6) (.bool b249) h255 fun h256 =>
(stC (Addr.mk b5 0 none) (.int .u64 (0 : Int)) h256 fun h257 =>
(stC (Addr.add (Addr.mk b5 0 none) 1) (.int .i64 (0 : Int)) h257 fun h258 =>
(stC (Addr.mk b7 0 none) (.int .i64 (0 : Int)) h258 fun h259 =>
(f_walk_Walk_1_n (some (Addr.mk b3 0 none)) (some (Addr.mk b5 0 none)) (some (Addr.mk b7 0 none)) (fun h260 =>
(ldI .i64 (Addr.mk b3 0 none) h260 fun n261 =>
(ldB (Addr.add (Addr.mk b3 0 none) 1) h260 fun b262 =>
(ldB (Addr.add (Addr.mk b3 0 none) 2) h260 fun b263 =>
(ldB (Addr.add (Addr.mk b3 0 none) 3) h260 fun b264 =>
(ldB (Addr.add (Addr.mk b3 0 none) 4) h260 fun b265 =>
(ldB (Addr.add (Addr.mk b3 0 none) 5) h260 fun b266 =>
(ldB (Addr.add (Addr.mk b3 0 none) 6) h260 fun b267 =>
(ldI .u64 (Addr.mk b5 0 none) h260 fun n268 =>
(ldI .i64 (Addr.add (Addr.mk b5 0 none) 1) h260 fun n269 =>
(ldI .i64 (Addr.mk b7 0 none) h260 fun n270 =>
(Q n261 b262 b263 b264 b265 b266 b267 n268 n269 n270 h260)))))))))))) h259))))))))))))))))))) h240))) ∧
(∃ I73 : Sl → Int → Int → Nat → Hp → Prop, (∃ m74, I73 Sl.nil p1 (4 : Int) m74 h71) ∧ ∀ s77 : Sl, ∀ x78 : Int, ∀ x79 : Int, ∀ m74 h76, I73 s77 x78 x79 m74 h76 → 
(bsel (decide (x79 ≥ (1 : Int)))
(inB (IntKind.wrap .i64 ((4 : Int) - x79)) 4
(ldI .i64 (Addr.add (Addr.mk b66 0 none) (Int.toNat (IntKind.wrap .i64 ((4 : Int) - x79)) * 1)) h76 fun n80 =>
(f_walk_walker_entry (some (Addr.mk b58 0 none)) x78 n80 x79 (fun n81 n82 h83 =>
(newB h83 (.cells #[(.int .u64 n82)] 32) fun b100 h101 =>
(apH 1 8 #[(.int .u64 (0 : Int))] 32 s77 (Sl.mk (some (Addr.mk b100 0 none)) 1 1) h101 fun s102 h103 =>
(f_pte_Unpack n81 (fun b104 b105 b106 b107 b108 b109 b110 b111 n112 h113 =>
(newB h113 (.cells #[(.bool false), (.bool false), (.bool false), (.bool false), (.bool false), (.bool false), (.bool false), (.bool false), (.int .i64 (0 : Int))] 85) fun b114 h115 =>
(stC (Addr.mk b114 0 none) (.bool b104) h115 fun h116 =>
(stC (Addr.add (Addr.mk b114 0 none) 1) (.bool b105) h116 fun h117 =>
(stC (Addr.add (Addr.mk b114 0 none) 2) (.bool b106) h117 fun h118 =>
(stC (Addr.add (Addr.mk b114 0 none) 3) (.bool b107) h118 fun h119 =>
(stC (Addr.add (Addr.mk b114 0 none) 4) (.bool b108) h119 fun h120 =>
(stC (Addr.add (Addr.mk b114 0 none) 5) (.bool b109) h120 fun h121 =>
(stC (Addr.add (Addr.mk b114 0 none) 6) (.bool b110) h121 fun h122 =>
(stC (Addr.add (Addr.mk b114 0 none) 7) (.bool b111) h122 fun h123 =>
(stC (Addr.add (Addr.mk b114 0 none) 8) (.int .i64 n112) h123 fun h124 =>
(ldI .i64 (Addr.add (Addr.mk b114 0 none) 8) h124 fun n125 =>
(bsel (decide (x79 > (1 : Int)))
(bsel (x79 == (2 : Int))
(ldB (Addr.add (Addr.mk b114 0 none) 5) h124 fun b126 =>
(bsel (!b126)
(∃ m75, m75 < m74 ∧ I73 s102 n125 (IntKind.wrap .i64 (x79 - (1 : Int))) m75 h124)
(∃ R127 : Hp → Prop, (∀ h153, R127 h153 → 
(ldI .i64 (Addr.add (Addr.mk b114 0 none) 8) h153 fun n154 =>
(ldB (Addr.add (Addr.mk b58 0 none) 5) h153 fun b155 =>
(ldB (Addr.add (Addr.add (Addr.mk b58 0 none) 5) 1) h153 fun b156 =>
(ldB (Addr.add (Addr.add (Addr.mk b58 0 none) 5) 2) h153 fun b157 =>
(ldB (Addr.add (Addr.mk b114 0 none) 6) h153 fun b158 =>
(ldB (Addr.add (Addr.mk b114 0 none) 4) h153 fun b159 =>
(bsel b159
(stC (Addr.mk b3 0 none) (.int .i64 n154) h153 fun h160 =>
(stC (Addr.add (Addr.mk b3 0 none) 1) (.bool b155) h160 fun h161 =>
(stC (Addr.add (Addr.mk b3 0 none) 2) (.bool b156) h161 fun h162 =>
(stC (Addr.add (Addr.mk b3 0 none) 3) (.bool b157) h162 fun h163 =>
(stC (Addr.add (Addr.mk b3 0 none) 4) (.bool b158) h163 fun h164 =>
(stC (Addr.add (Addr.mk b3 0 none) 5) (.bool (x79 == (2 : Int))) h164 fun h165 =>
(stC (Addr.add (Addr.mk b3 0 none) 6) (.bool true) h165 fun h166 =>
(ldB (Addr.add (Addr.mk b3 0 none) 5) h166 fun b167 =>
(bsel b167
(ldI .i64 (Addr.mk b3 0 none) h166 fun n168 =>
(ldI .i64 (Addr.add (Addr.mk b66 0 none) 3) h166 fun n169 =>
(stC (Addr.mk b3 0 none) (.int .i64 (IntKind.wrap .i64 (n168 + n169))) h166 fun h170 =>
(R72 s102 h170))))
(R72 s102 h166))))))))))
(ldB (Addr.mk b1 0 none) h153 fun b171 =>
(stC (Addr.mk b3 0 none) (.int .i64 n154) h153 fun h172 =>
(stC (Addr.add (Addr.mk b3 0 none) 1) (.bool b155) h172 fun h173 =>
(stC (Addr.add (Addr.mk b3 0 none) 2) (.bool b156) h173 fun h174 =>
(stC (Addr.add (Addr.mk b3 0 none) 3) (.bool b157) h174 fun h175 =>
(stC (Addr.add (Addr.mk b3 0 none) 4) (.bool b158) h175 fun h176 =>
(stC (Addr.add (Addr.mk b3 0 none) 5) (.bool (x79 == (2 : Int))) h176 fun h177 =>
(stC (Addr.add (Addr.mk b3 0 none) 6) (.bool b171) h177 fun h178 =>
(ldB (Addr.add (Addr.mk b3 0 none) 5) h178 fun b179 =>
(bsel b179
(ldI .i64 (Addr.mk b3 0 none) h178 fun n180 =>
(ldI .i64 (Addr.add (Addr.mk b66 0 none) 3) h178 fun n181 =>
(stC (Addr.mk b3 0 none) (.int .i64 (IntKind.wrap .i64 (n180 + n181))) h178 fun h182 =>
(R72 s102 h182))))
(R72 s102 h178))))))))))))))))))) ∧
(ldB (Addr.add (Addr.mk b58 0 none) 5) h124 fun b128 =>
(ldB (Addr.add (Addr.add (Addr.mk b58 0 none) 5) 1) h124 fun b129 =>
(ldB (Addr.add (Addr.add (Addr.mk b58 0 none) 5) 2) h124 fun b130 =>
(ldB (Addr.mk b1 0 none) h124 fun b131 =>
(ldB (Addr.add (Addr.mk b1 0 none) 1) h124 fun b132 =>
(ldB (Addr.add (Addr.mk b1 0 none) 2) h124 fun b133 =>
(f_walk_May b128 b129 b130 b131 b132 b133 (fun b134 h135 =>
(bsel (!b134)
(f_walk_walker_fault (some (Addr.mk b58 0 none)) (1 : Int) (fun  h136 =>
(R127 h136)) (fun v137 h138 => (∃ y140 : Int, ∃ y141 : Int, ∃ y142 : Int, (v137 : Value) = .iface 71 (.agg #[(.int .u64 y140), (.int .i64 y141), (.int .i64 y142)]) ∧ f_walk_Walk_1_p (some (Addr.mk b3 0 none)) (some (Addr.mk b5 0 none)) (some (Addr.mk b7 0 none)) y140 y141 y142 (fun h139 =>
(ldI .i64 (Addr.mk b3 0 none) h139 fun n143 =>
(ldB (Addr.add (Addr.mk b3 0 none) 1) h139 fun b144 =>
(ldB (Addr.add (Addr.mk b3 0 none) 2) h139 fun b145 =>
(ldB (Addr.add (Addr.mk b3 0 none) 3) h139 fun b146 =>
(ldB (Addr.add (Addr.mk b3 0 none) 4) h139 fun b147 =>
(ldB (Addr.add (Addr.mk b3 0 none) 5) h139 fun b148 =>
(ldB (Addr.add (Addr.mk b3 0 none) 6) h139 fun b149 =>
(ldI .u64 (Addr.mk b5 0 none) h139 fun n150 =>
(ldI .i64 (Addr.add (Addr.mk b5 0 none) 1) h139 fun n151 =>
(ldI .i64 (Addr.mk b7 0 none) h139 fun n152 =>
(Q n143 b144 b145 b146 b147 b148 b149 n150 n151 n152 h139)))))))))))) h138)) h135)
(R127 h135))) h124))))))))))
(∃ m75, m75 < m74 ∧ I73 s102 n125 (IntKind.wrap .i64 (x79 - (1 : Int))) m75 h124))
(∃ R183 : Hp → Prop, (∀ h209, R183 h209 → 
(ldI .i64 (Addr.add (Addr.mk b114 0 none) 8) h209 fun n210 =>
(ldB (Addr.add (Addr.mk b58 0 none) 5) h209 fun b211 =>
(ldB (Addr.add (Addr.add (Addr.mk b58 0 none) 5) 1) h209 fun b212 =>
(ldB (Addr.add (Addr.add (Addr.mk b58 0 none) 5) 2) h209 fun b213 =>
(ldB (Addr.add (Addr.mk b114 0 none) 6) h209 fun b214 =>
(ldB (Addr.add (Addr.mk b114 0 none) 4) h209 fun b215 =>
(bsel b215
(stC (Addr.mk b3 0 none) (.int .i64 n210) h209 fun h216 =>
(stC (Addr.add (Addr.mk b3 0 none) 1) (.bool b211) h216 fun h217 =>
(stC (Addr.add (Addr.mk b3 0 none) 2) (.bool b212) h217 fun h218 =>
(stC (Addr.add (Addr.mk b3 0 none) 3) (.bool b213) h218 fun h219 =>
(stC (Addr.add (Addr.mk b3 0 none) 4) (.bool b214) h219 fun h220 =>
(stC (Addr.add (Addr.mk b3 0 none) 5) (.bool (x79 == (2 : Int))) h220 fun h221 =>
(stC (Addr.add (Addr.mk b3 0 none) 6) (.bool true) h221 fun h222 =>
(ldB (Addr.add (Addr.mk b3 0 none) 5) h222 fun b223 =>
(bsel b223
(ldI .i64 (Addr.mk b3 0 none) h222 fun n224 =>
(ldI .i64 (Addr.add (Addr.mk b66 0 none) 3) h222 fun n225 =>
(stC (Addr.mk b3 0 none) (.int .i64 (IntKind.wrap .i64 (n224 + n225))) h222 fun h226 =>
(R72 s102 h226))))
(R72 s102 h222))))))))))
(ldB (Addr.mk b1 0 none) h209 fun b227 =>
(stC (Addr.mk b3 0 none) (.int .i64 n210) h209 fun h228 =>
(stC (Addr.add (Addr.mk b3 0 none) 1) (.bool b211) h228 fun h229 =>
(stC (Addr.add (Addr.mk b3 0 none) 2) (.bool b212) h229 fun h230 =>
(stC (Addr.add (Addr.mk b3 0 none) 3) (.bool b213) h230 fun h231 =>
(stC (Addr.add (Addr.mk b3 0 none) 4) (.bool b214) h231 fun h232 =>
(stC (Addr.add (Addr.mk b3 0 none) 5) (.bool (x79 == (2 : Int))) h232 fun h233 =>
(stC (Addr.add (Addr.mk b3 0 none) 6) (.bool b227) h233 fun h234 =>
(ldB (Addr.add (Addr.mk b3 0 none) 5) h234 fun b235 =>
(bsel b235
(ldI .i64 (Addr.mk b3 0 none) h234 fun n236 =>
(ldI .i64 (Addr.add (Addr.mk b66 0 none) 3) h234 fun n237 =>
(stC (Addr.mk b3 0 none) (.int .i64 (IntKind.wrap .i64 (n236 + n237))) h234 fun h238 =>
(R72 s102 h238))))
(R72 s102 h234))))))))))))))))))) ∧
(ldB (Addr.add (Addr.mk b58 0 none) 5) h124 fun b184 =>
(ldB (Addr.add (Addr.add (Addr.mk b58 0 none) 5) 1) h124 fun b185 =>
(ldB (Addr.add (Addr.add (Addr.mk b58 0 none) 5) 2) h124 fun b186 =>
(ldB (Addr.mk b1 0 none) h124 fun b187 =>
(ldB (Addr.add (Addr.mk b1 0 none) 1) h124 fun b188 =>
(ldB (Addr.add (Addr.mk b1 0 none) 2) h124 fun b189 =>
(f_walk_May b184 b185 b186 b187 b188 b189 (fun b190 h191 =>
(bsel (!b190)
(f_walk_walker_fault (some (Addr.mk b58 0 none)) (1 : Int) (fun  h192 =>
(R183 h192)) (fun v193 h194 => (∃ y196 : Int, ∃ y197 : Int, ∃ y198 : Int, (v193 : Value) = .iface 71 (.agg #[(.int .u64 y196), (.int .i64 y197), (.int .i64 y198)]) ∧ f_walk_Walk_1_p (some (Addr.mk b3 0 none)) (some (Addr.mk b5 0 none)) (some (Addr.mk b7 0 none)) y196 y197 y198 (fun h195 =>
(ldI .i64 (Addr.mk b3 0 none) h195 fun n199 =>
(ldB (Addr.add (Addr.mk b3 0 none) 1) h195 fun b200 =>
(ldB (Addr.add (Addr.mk b3 0 none) 2) h195 fun b201 =>
(ldB (Addr.add (Addr.mk b3 0 none) 3) h195 fun b202 =>
(ldB (Addr.add (Addr.mk b3 0 none) 4) h195 fun b203 =>
(ldB (Addr.add (Addr.mk b3 0 none) 5) h195 fun b204 =>
(ldB (Addr.add (Addr.mk b3 0 none) 6) h195 fun b205 =>
(ldI .u64 (Addr.mk b5 0 none) h195 fun n206 =>
(ldI .i64 (Addr.add (Addr.mk b5 0 none) 1) h195 fun n207 =>
(ldI .i64 (Addr.mk b7 0 none) h195 fun n208 =>
(Q n199 b200 b201 b202 b203 b204 b205 n206 n207 n208 h195)))))))))))) h194)) h191)
(R183 h191))) h124))))))))))))))))))))) h103)))) (fun v84 h85 => (∃ y87 : Int, ∃ y88 : Int, ∃ y89 : Int, (v84 : Value) = .iface 71 (.agg #[(.int .u64 y87), (.int .i64 y88), (.int .i64 y89)]) ∧ f_walk_Walk_1_p (some (Addr.mk b3 0 none)) (some (Addr.mk b5 0 none)) (some (Addr.mk b7 0 none)) y87 y88 y89 (fun h86 =>
(ldI .i64 (Addr.mk b3 0 none) h86 fun n90 =>
(ldB (Addr.add (Addr.mk b3 0 none) 1) h86 fun b91 =>
(ldB (Addr.add (Addr.mk b3 0 none) 2) h86 fun b92 =>
(ldB (Addr.add (Addr.mk b3 0 none) 3) h86 fun b93 =>
(ldB (Addr.add (Addr.mk b3 0 none) 4) h86 fun b94 =>
(ldB (Addr.add (Addr.mk b3 0 none) 5) h86 fun b95 =>
(ldB (Addr.add (Addr.mk b3 0 none) 6) h86 fun b96 =>
(ldI .u64 (Addr.mk b5 0 none) h86 fun n97 =>
(ldI .i64 (Addr.add (Addr.mk b5 0 none) 1) h86 fun n98 =>
(ldI .i64 (Addr.mk b7 0 none) h86 fun n99 =>
(Q n90 b91 b92 b93 b94 b95 b96 n97 n98 n99 h86)))))))))))) h85)) h76)))
(R72 s77 h76)))))))))) h59))))))) h10))) h8)))))
def walk_Walk : walk_Walk_T := walk_Walk_G walk_May pte_Canonical ram_RAM_Has pte_Split walk_walker_entry pte_Unpack walk_walker_fault walk_mark walk_Walk_1_n walk_Walk_1_p

/- demesne/demesnelaw04.awake -/
abbrev demesnelaw04_awake_T := (Bool → Hp → Prop) → Hp → Prop
def demesnelaw04_awake_G (f_demesnelaw04_Lay : demesnelaw04_Lay_T) (f_walk_Walk : walk_Walk_T) (Q : Bool → Hp → Prop) (h : Hp) : Prop :=
(newB h (.cells #[(.int .i64 (0 : Int)), (.int .i64 (0 : Int)), (.int .u64 (4103 : Int)), (.int .i64 (1 : Int)), (.int .i64 (0 : Int)), (.int .u64 (8199 : Int)), (.int .i64 (2 : Int)), (.int .i64 (0 : Int)), (.int .u64 (12295 : Int)), (.int .i64 (3 : Int)), (.int .i64 (1 : Int)), (.int .u64 (16389 : Int))] 60) fun b1 h2 =>
(f_demesnelaw04_Lay (Sl.mk (some (Addr.mk b1 0 none)) 4 4) (fun pt3 n4 s5 mp6 h7 =>
(newB h7 (.cells #[(.int .i64 (0 : Int)), (.slice none 0 0), (.map none)] 28) fun b8 h9 =>
(stC (Addr.mk b8 0 none) (.int .i64 n4) h9 fun h10 =>
(stC (Addr.add (Addr.mk b8 0 none) 1) (.slice s5.a s5.len s5.cap) h10 fun h11 =>
(stC (Addr.add (Addr.mk b8 0 none) 2) (.map mp6) h11 fun h12 =>
(bsel pt3.isNone
(Q false h12)
(f_walk_Walk pt3 (0 : Int) (4096 : Int) false true false (fun n13 b14 b15 b16 b17 b18 b19 n20 n21 n22 h23 =>
(newB h23 (.cells #[(.int .i64 (0 : Int)), (.bool false), (.bool false), (.bool false), (.bool false), (.bool false), (.bool false)] 40) fun b24 h25 =>
(newB h25 (.cells #[(.int .u64 (0 : Int)), (.int .i64 (0 : Int))] 42) fun b26 h27 =>
(stC (Addr.mk b24 0 none) (.int .i64 n13) h27 fun h28 =>
(stC (Addr.add (Addr.mk b24 0 none) 1) (.bool b14) h28 fun h29 =>
(stC (Addr.add (Addr.mk b24 0 none) 2) (.bool b15) h29 fun h30 =>
(stC (Addr.add (Addr.mk b24 0 none) 3) (.bool b16) h30 fun h31 =>
(stC (Addr.add (Addr.mk b24 0 none) 4) (.bool b17) h31 fun h32 =>
(stC (Addr.add (Addr.mk b24 0 none) 5) (.bool b18) h32 fun h33 =>
(stC (Addr.add (Addr.mk b24 0 none) 6) (.bool b19) h33 fun h34 =>
(stC (Addr.mk b26 0 none) (.int .u64 n20) h34 fun h35 =>
(stC (Addr.add (Addr.mk b26 0 none) 1) (.int .i64 n21) h35 fun h36 =>
(f_walk_Walk pt3 (0 : Int) (4096 : Int) true true false (fun n37 b38 b39 b40 b41 b42 b43 n44 n45 n46 h47 =>
(newB h47 (.cells #[(.int .i64 (0 : Int)), (.bool false), (.bool false), (.bool false), (.bool false), (.bool false), (.bool false)] 40) fun b48 h49 =>
(newB h49 (.cells #[(.int .u64 (0 : Int)), (.int .i64 (0 : Int))] 42) fun b50 h51 =>
(stC (Addr.mk b48 0 none) (.int .i64 n37) h51 fun h52 =>
(stC (Addr.add (Addr.mk b48 0 none) 1) (.bool b38) h52 fun h53 =>
(stC (Addr.add (Addr.mk b48 0 none) 2) (.bool b39) h53 fun h54 =>
(stC (Addr.add (Addr.mk b48 0 none) 3) (.bool b40) h54 fun h55 =>
(stC (Addr.add (Addr.mk b48 0 none) 4) (.bool b41) h55 fun h56 =>
(stC (Addr.add (Addr.mk b48 0 none) 5) (.bool b42) h56 fun h57 =>
(stC (Addr.add (Addr.mk b48 0 none) 6) (.bool b43) h57 fun h58 =>
(stC (Addr.mk b50 0 none) (.int .u64 n44) h58 fun h59 =>
(stC (Addr.add (Addr.mk b50 0 none) 1) (.int .i64 n45) h59 fun h60 =>
(bsel (n22 == (0 : Int))
(ldI .i64 (Addr.mk b24 0 none) h60 fun n61 =>
(bsel (n61 == (4 : Int))
(bsel (n46 == (9 : Int))
(ldI .u64 (Addr.mk b50 0 none) h60 fun n62 =>
(ldI .i64 (Addr.add (Addr.mk b50 0 none) 1) h60 fun n63 =>
(Q ((n62 == (4096 : Int)) && ((n63 == (7 : Int)) && true)) h60)))
(Q false h60))
(Q false h60)))
(Q false h60)))))))))))))) h36))))))))))))) h12))))))) h2))
def demesnelaw04_awake : demesnelaw04_awake_T := demesnelaw04_awake_G demesnelaw04_Lay walk_Walk

/- demesne/demesneref04.May -/
abbrev demesneref04_May_T := Bool → Bool → Bool → Bool → Bool → Bool → (Bool → Hp → Prop) → Hp → Prop
def demesneref04_May (p0 : Bool) (p1 : Bool) (p2 : Bool) (p3 : Bool) (p4 : Bool) (p5 : Bool) (Q : Bool → Hp → Prop) (h : Hp) : Prop :=
(newB h (.cells #[(.bool p3), (.bool p4), (.bool p5)] 34) fun b1 h2 =>
(ldB (Addr.mk b1 0 none) h2 fun b3 =>
(bsel b3
(bsel (!p0)
(Q false h2)
(ldB (Addr.add (Addr.mk b1 0 none) 1) h2 fun b4 =>
(bsel b4
(bsel (!p1)
(Q false h2)
(ldB (Addr.add (Addr.mk b1 0 none) 2) h2 fun b5 =>
(bsel (!b5)
(Q true h2)
(Q p2 h2))))
(ldB (Addr.add (Addr.mk b1 0 none) 2) h2 fun b6 =>
(bsel (!b6)
(Q true h2)
(Q p2 h2))))))
(ldB (Addr.add (Addr.mk b1 0 none) 1) h2 fun b7 =>
(bsel b7
(bsel (!p1)
(Q false h2)
(ldB (Addr.add (Addr.mk b1 0 none) 2) h2 fun b8 =>
(bsel (!b8)
(Q true h2)
(Q p2 h2))))
(ldB (Addr.add (Addr.mk b1 0 none) 2) h2 fun b9 =>
(bsel (!b9)
(Q true h2)
(Q p2 h2))))))))

/- demesne/demesneref03.Bit -/
abbrev demesneref03_Bit_T := Int → Int → (Bool → Hp → Prop) → Hp → Prop
def demesneref03_Bit (p0 : Int) (p1 : Int) (Q : Bool → Hp → Prop) (h : Hp) : Prop :=
(bsel (decide (p1 < 0)) False
(Q ((Int.tmod (Int.fdiv p0 (2 ^ (min (Int.toNat p1) 64))) (2 : Int)) == (1 : Int)) h))

/- demesne/demesneref03.Canonical -/
abbrev demesneref03_Canonical_T := Int → (Bool → Hp → Prop) → Hp → Prop
def demesneref03_Canonical_G (f_demesneref03_Bit : demesneref03_Bit_T) (p0 : Int) (Q : Bool → Hp → Prop) (h : Hp) : Prop :=
(∃ I1 : Int → Nat → Hp → Prop, (∃ m2, I1 (47 : Int) m2 h) ∧ ∀ x5 : Int, ∀ m2 h4, I1 x5 m2 h4 → 
(bsel (decide (x5 < (64 : Int)))
(f_demesneref03_Bit p0 x5 (fun b6 h7 =>
(f_demesneref03_Bit p0 (47 : Int) (fun b8 h9 =>
(bsel (!(b6 == b8))
(Q false h9)
(∃ m3, m3 < m2 ∧ I1 (IntKind.wrap .i64 (x5 + (1 : Int))) m3 h9))) h7)) h4)
(Q true h4)))
def demesneref03_Canonical : demesneref03_Canonical_T := demesneref03_Canonical_G demesneref03_Bit

/- demesne/demesneref01.Has -/
abbrev demesneref01_Has_T := Int → Sl → Option Nat → Int → (Bool → Hp → Prop) → Hp → Prop
def demesneref01_Has (p0 : Int) (p1 : Sl) (p2 : Option Nat) (p3 : Int) (Q : Bool → Hp → Prop) (h : Hp) : Prop :=
(newB h (.cells #[(.int .i64 p0), (.slice p1.a p1.len p1.cap), (.map p2)] 28) fun b1 h2 =>
(∃ R3 : Bool → Hp → Prop, (∀ b5 : Bool, ∀ h6, R3 b5 h6 → 
(ldS (Addr.add (Addr.mk b1 0 none) 1) h6 fun s7 =>
(∃ I8 : Bool → Int → Nat → Hp → Prop, (∃ m9, I8 b5 (0 : Int) m9 h6) ∧ ∀ b12 : Bool, ∀ x13 : Int, ∀ m9 h11, I8 b12 x13 m9 h11 → 
(bsel (decide (x13 < (Int.ofNat s7.len)))
(∃ R14 : Bool → Hp → Prop, (∀ b24 : Bool, ∀ h25, R14 b24 h25 → 
(∃ m10, m10 < m9 ∧ I8 b24 (IntKind.wrap .i64 (x13 + (1 : Int))) m10 h25)) ∧
(onSome s7.a fun a15 =>
(inB x13 s7.len
(ldI .i64 (Addr.add a15 (Int.toNat x13 * 2)) h11 fun n16 =>
(ldI .i64 (Addr.add (Addr.add a15 (Int.toNat x13 * 2)) 1) h11 fun n17 =>
(newB h11 (.cells #[(.int .i64 (0 : Int)), (.int .i64 (0 : Int))] 65) fun b18 h19 =>
(stC (Addr.mk b18 0 none) (.int .i64 n16) h19 fun h20 =>
(stC (Addr.add (Addr.mk b18 0 none) 1) (.int .i64 n17) h20 fun h21 =>
(bsel b12
(ldI .i64 (Addr.mk b18 0 none) h21 fun n22 =>
(bsel (decide (n22 ≤ p3))
(ldI .i64 (Addr.add (Addr.mk b18 0 none) 1) h21 fun n23 =>
(R14 (!(decide (p3 < n23))) h21))
(R14 true h21)))
(R14 false h21))))))))))
(Q b12 h11))))) ∧
(bsel (decide (p3 ≥ (0 : Int)))
(ldI .i64 (Addr.mk b1 0 none) h2 fun n4 =>
(R3 (decide (p3 < n4)) h2))
(R3 false h2))))

/- demesne/demesneref03.Part -/
abbrev demesneref03_Part_T := Int → Int → Int → (Int → Hp → Prop) → Hp → Prop
def demesneref03_Part_G (f_demesneref03_Bit : demesneref03_Bit_T) (p0 : Int) (p1 : Int) (p2 : Int) (Q : Int → Hp → Prop) (h : Hp) : Prop :=
(∃ I1 : Int → Int → Nat → Hp → Prop, (∃ m2, I1 (0 : Int) (IntKind.wrap .i64 (p2 - (1 : Int))) m2 h) ∧ ∀ x5 : Int, ∀ x6 : Int, ∀ m2 h4, I1 x5 x6 m2 h4 → 
(bsel (decide (x6 ≥ (0 : Int)))
(∃ R7 : Int → Hp → Prop, (∀ x10 : Int, ∀ h11, R7 x10 h11 → 
(∃ m3, m3 < m2 ∧ I1 x10 (IntKind.wrap .i64 (x6 - (1 : Int))) m3 h11)) ∧
(f_demesneref03_Bit p0 (IntKind.wrap .i64 (p1 + x6)) (fun b8 h9 =>
(bsel b8
(R7 (IntKind.wrap .i64 ((IntKind.wrap .i64 ((2 : Int) * x5)) + (1 : Int))) h9)
(R7 (IntKind.wrap .i64 ((2 : Int) * x5)) h9))) h4))
(Q x5 h4)))
def demesneref03_Part : demesneref03_Part_T := demesneref03_Part_G demesneref03_Bit

/- demesne/demesneref01.Load -/
abbrev demesneref01_Load_T := Int → Sl → Option Nat → Int → Int → (Int → Hp → Prop) → Hp → Prop
def demesneref01_Load (p0 : Int) (p1 : Sl) (p2 : Option Nat) (p3 : Int) (p4 : Int) (Q : Int → Hp → Prop) (h : Hp) : Prop :=
(newB h (.cells #[(.int .i64 p0), (.slice p1.a p1.len p1.cap), (.map p2)] 28) fun b1 h2 =>
(∃ I3 : Int → Int → Nat → Hp → Prop, (∃ m4, I3 (0 : Int) (0 : Int) m4 h2) ∧ ∀ x7 : Int, ∀ x8 : Int, ∀ m4 h6, I3 x7 x8 m4 h6 → 
(bsel (decide (x8 < p4))
(ldM (Addr.add (Addr.mk b1 0 none) 2) h6 fun mp9 =>
(mLk h6 mp9 .u64 (IntKind.wrap .u64 (p3 + (IntKind.wrap .u64 x8))) fun o10 =>
(∃ n11 : Int, ((o10.getD (.int .u8 (0 : Int))) : Value) = (.int .u8 n11) ∧
(bsel (decide ((IntKind.wrap .i64 ((8 : Int) * x8)) < 0)) False
(∃ m5, m5 < m4 ∧ I3 (IntKind.wrap .u64 (x7 + (IntKind.wrap .u64 ((IntKind.wrap .u64 n11) * 2 ^ (min (Int.toNat (IntKind.wrap .i64 ((8 : Int) * x8))) 64))))) (IntKind.wrap .i64 (x8 + (1 : Int))) m5 h6)))))
(Q x7 h6))))

/- demesne/demesneref03.Unpack -/
abbrev demesneref03_Unpack_T := Int → (Bool → Bool → Bool → Bool → Bool → Bool → Bool → Bool → Int → Hp → Prop) → Hp → Prop
def demesneref03_Unpack_G (f_demesneref03_Bit : demesneref03_Bit_T) (p0 : Int) (Q : Bool → Bool → Bool → Bool → Bool → Bool → Bool → Bool → Int → Hp → Prop) (h : Hp) : Prop :=
(newB h (.cells #[(.bool false), (.bool false), (.bool false), (.bool false), (.bool false), (.bool false), (.bool false), (.bool false), (.int .i64 (0 : Int))] 92) fun b1 h2 =>
(f_demesneref03_Bit p0 (0 : Int) (fun b3 h4 =>
(f_demesneref03_Bit p0 (1 : Int) (fun b5 h6 =>
(f_demesneref03_Bit p0 (2 : Int) (fun b7 h8 =>
(f_demesneref03_Bit p0 (5 : Int) (fun b9 h10 =>
(f_demesneref03_Bit p0 (6 : Int) (fun b11 h12 =>
(f_demesneref03_Bit p0 (7 : Int) (fun b13 h14 =>
(f_demesneref03_Bit p0 (8 : Int) (fun b15 h16 =>
(f_demesneref03_Bit p0 (63 : Int) (fun b17 h18 =>
(stC (Addr.mk b1 0 none) (.bool b3) h18 fun h19 =>
(stC (Addr.add (Addr.mk b1 0 none) 1) (.bool b5) h19 fun h20 =>
(stC (Addr.add (Addr.mk b1 0 none) 2) (.bool b7) h20 fun h21 =>
(stC (Addr.add (Addr.mk b1 0 none) 3) (.bool b9) h21 fun h22 =>
(stC (Addr.add (Addr.mk b1 0 none) 4) (.bool b11) h22 fun h23 =>
(stC (Addr.add (Addr.mk b1 0 none) 5) (.bool b13) h23 fun h24 =>
(stC (Addr.add (Addr.mk b1 0 none) 6) (.bool b15) h24 fun h25 =>
(stC (Addr.add (Addr.mk b1 0 none) 7) (.bool b17) h25 fun h26 =>
(stC (Addr.add (Addr.mk b1 0 none) 8) (.int .i64 (IntKind.wrap .i64 (Int.tmod (IntKind.wrap .u64 (Int.tdiv p0 (4096 : Int))) (1048576 : Int)))) h26 fun h27 =>
(ldB (Addr.mk b1 0 none) h27 fun b28 =>
(ldB (Addr.add (Addr.mk b1 0 none) 1) h27 fun b29 =>
(ldB (Addr.add (Addr.mk b1 0 none) 2) h27 fun b30 =>
(ldB (Addr.add (Addr.mk b1 0 none) 3) h27 fun b31 =>
(ldB (Addr.add (Addr.mk b1 0 none) 4) h27 fun b32 =>
(ldB (Addr.add (Addr.mk b1 0 none) 5) h27 fun b33 =>
(ldB (Addr.add (Addr.mk b1 0 none) 6) h27 fun b34 =>
(ldB (Addr.add (Addr.mk b1 0 none) 7) h27 fun b35 =>
(ldI .i64 (Addr.add (Addr.mk b1 0 none) 8) h27 fun n36 =>
(Q b28 b29 b30 b31 b32 b33 b34 b35 n36 h27)))))))))))))))))))) h16)) h14)) h12)) h10)) h8)) h6)) h4)) h2))
def demesneref03_Unpack : demesneref03_Unpack_T := demesneref03_Unpack_G demesneref03_Bit

/- demesne/demesneref04.Code -/
abbrev demesneref04_Code_T := Bool → Bool → Bool → (Int → Hp → Prop) → Hp → Prop
def demesneref04_Code (p0 : Bool) (p1 : Bool) (p2 : Bool) (Q : Int → Hp → Prop) (h : Hp) : Prop :=
(newB h (.cells #[(.bool p0), (.bool p1), (.bool p2)] 34) fun b1 h2 =>
(∃ R3 : Int → Hp → Prop, (∀ x5 : Int, ∀ h6, R3 x5 h6 → 
(∃ R7 : Int → Hp → Prop, (∀ x9 : Int, ∀ h10, R7 x9 h10 → 
(∃ R11 : Int → Hp → Prop, (∀ x13 : Int, ∀ h14, R11 x13 h14 → 
(Q x13 h14)) ∧
(ldB (Addr.add (Addr.mk b1 0 none) 2) h10 fun b12 =>
(bsel b12
(R11 (IntKind.wrap .i64 (x9 + (16 : Int))) h10)
(R11 x9 h10))))) ∧
(ldB (Addr.add (Addr.mk b1 0 none) 1) h6 fun b8 =>
(bsel b8
(R7 (IntKind.wrap .i64 (x5 + (4 : Int))) h6)
(R7 x5 h6))))) ∧
(ldB (Addr.mk b1 0 none) h2 fun b4 =>
(bsel b4
(R3 (2 : Int) h2)
(R3 (0 : Int) h2)))))

/- demesne/demesneref03.any -/
abbrev demesneref03_any_T := Int → Int → Int → (Bool → Hp → Prop) → Hp → Prop
def demesneref03_any_G (f_demesneref03_Bit : demesneref03_Bit_T) (p0 : Int) (p1 : Int) (p2 : Int) (Q : Bool → Hp → Prop) (h : Hp) : Prop :=
(∃ I1 : Int → Nat → Hp → Prop, (∃ m2, I1 p1 m2 h) ∧ ∀ x5 : Int, ∀ m2 h4, I1 x5 m2 h4 → 
(bsel (decide (x5 ≤ p2))
(f_demesneref03_Bit p0 x5 (fun b6 h7 =>
(bsel b6
(Q true h7)
(∃ m3, m3 < m2 ∧ I1 (IntKind.wrap .i64 (x5 + (1 : Int))) m3 h7))) h4)
(Q false h4)))
def demesneref03_any : demesneref03_any_T := demesneref03_any_G demesneref03_Bit

/- demesne/demesneref03.Reserved -/
abbrev demesneref03_Reserved_T := Int → Int → (Bool → Hp → Prop) → Hp → Prop
def demesneref03_Reserved_G (f_demesneref03_Bit : demesneref03_Bit_T) (f_demesneref03_any : demesneref03_any_T) (p0 : Int) (p1 : Int) (Q : Bool → Hp → Prop) (h : Hp) : Prop :=
(f_demesneref03_Bit p0 (0 : Int) (fun b1 h2 =>
(bsel (!b1)
(Q false h2)
(f_demesneref03_any p0 (32 : Int) (51 : Int) (fun b3 h4 =>
(bsel b3
(Q true h4)
(bsel (decide (p1 ≥ (3 : Int)))
(f_demesneref03_Bit p0 (7 : Int) (fun b5 h6 =>
(Q b5 h6)) h4)
(bsel (p1 == (2 : Int))
(f_demesneref03_Bit p0 (7 : Int) (fun b7 h8 =>
(bsel b7
(f_demesneref03_any p0 (12 : Int) (20 : Int) (fun b9 h10 =>
(Q b9 h10)) h8)
(Q false h8))) h4)
(Q false h4))))) h2))) h)
def demesneref03_Reserved : demesneref03_Reserved_T := demesneref03_Reserved_G demesneref03_Bit demesneref03_any

/- demesne/demesneref04.Walk -/
abbrev demesneref04_Walk_T := Int → Sl → Option Nat → Int → Int → Bool → Bool → Bool → (Int → Bool → Bool → Bool → Bool → Bool → Bool → Int → Int → Hp → Prop) → Hp → Prop
def demesneref04_Walk_G (f_demesneref04_May : demesneref04_May_T) (f_demesneref01_Store : demesneref01_Store_T) (f_demesneref03_Canonical : demesneref03_Canonical_T) (f_demesneref01_Has : demesneref01_Has_T) (f_demesneref03_Part : demesneref03_Part_T) (f_demesneref01_Load : demesneref01_Load_T) (f_demesneref03_Unpack : demesneref03_Unpack_T) (f_demesneref04_Code : demesneref04_Code_T) (f_demesneref03_Reserved : demesneref03_Reserved_T) (f_demesneref03_Bit : demesneref03_Bit_T) (p0 : Int) (p1 : Sl) (p2 : Option Nat) (p3 : Int) (p4 : Int) (p5 : Bool) (p6 : Bool) (p7 : Bool) (Q : Int → Bool → Bool → Bool → Bool → Bool → Bool → Int → Int → Hp → Prop) (h : Hp) : Prop :=
(newB h (.cells #[(.int .i64 p0), (.slice p1.a p1.len p1.cap), (.map p2)] 28) fun b1 h2 =>
(newB h2 (.cells #[(.bool p5), (.bool p6), (.bool p7)] 34) fun b3 h4 =>
(newB h4 (.cells #[(.int .i64 (0 : Int)), (.bool false), (.bool false), (.bool false), (.bool false), (.bool false), (.bool false)] 47) fun b5 h6 =>
(f_demesneref03_Canonical p4 (fun b7 h8 =>
(bsel (!b7)
(stC (Addr.mk b5 0 none) (.int .i64 (0 : Int)) h8 fun h9 =>
(stC (Addr.add (Addr.mk b5 0 none) 1) (.bool false) h9 fun h10 =>
(stC (Addr.add (Addr.mk b5 0 none) 2) (.bool false) h10 fun h11 =>
(stC (Addr.add (Addr.mk b5 0 none) 3) (.bool false) h11 fun h12 =>
(stC (Addr.add (Addr.mk b5 0 none) 4) (.bool false) h12 fun h13 =>
(stC (Addr.add (Addr.mk b5 0 none) 5) (.bool false) h13 fun h14 =>
(stC (Addr.add (Addr.mk b5 0 none) 6) (.bool false) h14 fun h15 =>
(ldI .i64 (Addr.mk b5 0 none) h15 fun n16 =>
(ldB (Addr.add (Addr.mk b5 0 none) 1) h15 fun b17 =>
(ldB (Addr.add (Addr.mk b5 0 none) 2) h15 fun b18 =>
(ldB (Addr.add (Addr.mk b5 0 none) 3) h15 fun b19 =>
(ldB (Addr.add (Addr.mk b5 0 none) 4) h15 fun b20 =>
(ldB (Addr.add (Addr.mk b5 0 none) 5) h15 fun b21 =>
(ldB (Addr.add (Addr.mk b5 0 none) 6) h15 fun b22 =>
(Q n16 b17 b18 b19 b20 b21 b22 (0 : Int) (1 : Int) h15)))))))))))))))
(ldI .i64 (Addr.mk b1 0 none) h8 fun n23 =>
(ldS (Addr.add (Addr.mk b1 0 none) 1) h8 fun s24 =>
(ldM (Addr.add (Addr.mk b1 0 none) 2) h8 fun mp25 =>
(f_demesneref01_Has n23 s24 mp25 p3 (fun b26 h27 =>
(bsel (!b26)
(stC (Addr.mk b5 0 none) (.int .i64 (0 : Int)) h27 fun h28 =>
(stC (Addr.add (Addr.mk b5 0 none) 1) (.bool false) h28 fun h29 =>
(stC (Addr.add (Addr.mk b5 0 none) 2) (.bool false) h29 fun h30 =>
(stC (Addr.add (Addr.mk b5 0 none) 3) (.bool false) h30 fun h31 =>
(stC (Addr.add (Addr.mk b5 0 none) 4) (.bool false) h31 fun h32 =>
(stC (Addr.add (Addr.mk b5 0 none) 5) (.bool false) h32 fun h33 =>
(stC (Addr.add (Addr.mk b5 0 none) 6) (.bool false) h33 fun h34 =>
(ldI .i64 (Addr.mk b5 0 none) h34 fun n35 =>
(ldB (Addr.add (Addr.mk b5 0 none) 1) h34 fun b36 =>
(ldB (Addr.add (Addr.mk b5 0 none) 2) h34 fun b37 =>
(ldB (Addr.add (Addr.mk b5 0 none) 3) h34 fun b38 =>
(ldB (Addr.add (Addr.mk b5 0 none) 4) h34 fun b39 =>
(ldB (Addr.add (Addr.mk b5 0 none) 5) h34 fun b40 =>
(ldB (Addr.add (Addr.mk b5 0 none) 6) h34 fun b41 =>
(Q n35 b36 b37 b38 b39 b40 b41 (0 : Int) (2 : Int) h34)))))))))))))))
(newB h27 (.cells #[(.int .i64 (0 : Int)), (.bool false), (.bool false), (.bool false), (.bool false), (.bool false), (.bool false)] 47) fun b42 h43 =>
(stC (Addr.mk b42 0 none) (.int .i64 (0 : Int)) h43 fun h44 =>
(stC (Addr.add (Addr.mk b42 0 none) 1) (.bool true) h44 fun h45 =>
(stC (Addr.add (Addr.mk b42 0 none) 2) (.bool true) h45 fun h46 =>
(stC (Addr.add (Addr.mk b42 0 none) 3) (.bool true) h46 fun h47 =>
(stC (Addr.add (Addr.mk b42 0 none) 4) (.bool false) h47 fun h48 =>
(stC (Addr.add (Addr.mk b42 0 none) 5) (.bool false) h48 fun h49 =>
(stC (Addr.add (Addr.mk b42 0 none) 6) (.bool false) h49 fun h50 =>
(newB h50 (.cells #[] 32) fun b51 h52 =>
(∃ R53 : Sl → Hp → Prop, (∀ s195 : Sl, ∀ h196, R53 s195 h196 → 
(ldB (Addr.add (Addr.mk b42 0 none) 1) h196 fun b197 =>
(ldB (Addr.add (Addr.mk b42 0 none) 2) h196 fun b198 =>
(ldB (Addr.add (Addr.mk b42 0 none) 3) h196 fun b199 =>
(ldB (Addr.mk b3 0 none) h196 fun b200 =>
(ldB (Addr.add (Addr.mk b3 0 none) 1) h196 fun b201 =>
(ldB (Addr.add (Addr.mk b3 0 none) 2) h196 fun b202 =>
(f_demesneref04_May b197 b198 b199 b200 b201 b202 (fun b203 h204 =>
(bsel (!b203)
(ldB (Addr.mk b3 0 none) h204 fun b205 =>
(ldB (Addr.add (Addr.mk b3 0 none) 1) h204 fun b206 =>
(ldB (Addr.add (Addr.mk b3 0 none) 2) h204 fun b207 =>
(f_demesneref04_Code b205 b206 b207 (fun n208 h209 =>
(stC (Addr.mk b5 0 none) (.int .i64 (0 : Int)) h209 fun h210 =>
(stC (Addr.add (Addr.mk b5 0 none) 1) (.bool false) h210 fun h211 =>
(stC (Addr.add (Addr.mk b5 0 none) 2) (.bool false) h211 fun h212 =>
(stC (Addr.add (Addr.mk b5 0 none) 3) (.bool false) h212 fun h213 =>
(stC (Addr.add (Addr.mk b5 0 none) 4) (.bool false) h213 fun h214 =>
(stC (Addr.add (Addr.mk b5 0 none) 5) (.bool false) h214 fun h215 =>
(stC (Addr.add (Addr.mk b5 0 none) 6) (.bool false) h215 fun h216 =>
(ldI .i64 (Addr.mk b5 0 none) h216 fun n217 =>
(ldB (Addr.add (Addr.mk b5 0 none) 1) h216 fun b218 =>
(ldB (Addr.add (Addr.mk b5 0 none) 2) h216 fun b219 =>
(ldB (Addr.add (Addr.mk b5 0 none) 3) h216 fun b220 =>
(ldB (Addr.add (Addr.mk b5 0 none) 4) h216 fun b221 =>
(ldB (Addr.add (Addr.mk b5 0 none) 5) h216 fun b222 =>
(ldB (Addr.add (Addr.mk b5 0 none) 6) h216 fun b223 =>
(Q n217 b218 b219 b220 b221 b222 b223 (IntKind.wrap .i64 ((1 : Int) + n208)) (9 : Int) h216)))))))))))))))) h204))))
(∃ I224 : Int → Nat → Hp → Prop, (∃ m225, I224 (0 : Int) m225 h204) ∧ ∀ x228 : Int, ∀ m225 h227, I224 x228 m225 h227 → 
(bsel (decide (x228 < (Int.ofNat s195.len)))
(onSome s195.a fun a229 =>
(inB x228 s195.len
(ldI .u64 (Addr.add a229 (Int.toNat x228 * 1)) h227 fun n230 =>
(ldI .i64 (Addr.mk b1 0 none) h227 fun n231 =>
(ldS (Addr.add (Addr.mk b1 0 none) 1) h227 fun s232 =>
(ldM (Addr.add (Addr.mk b1 0 none) 2) h227 fun mp233 =>
(f_demesneref01_Load n231 s232 mp233 n230 (8 : Int) (fun n234 h235 =>
(∃ R236 : Int → Hp → Prop, (∀ x239 : Int, ∀ h240, R236 x239 h240 → 
(∃ R241 : Int → Hp → Prop, (∀ x245 : Int, ∀ h246, R241 x245 h246 → 
(ldI .i64 (Addr.mk b1 0 none) h246 fun n247 =>
(ldS (Addr.add (Addr.mk b1 0 none) 1) h246 fun s248 =>
(ldM (Addr.add (Addr.mk b1 0 none) 2) h246 fun mp249 =>
(f_demesneref01_Store n247 s248 mp249 n230 (8 : Int) x245 (fun  h250 =>
(∃ m226, m226 < m225 ∧ I224 (IntKind.wrap .i64 (x228 + (1 : Int))) m226 h250)) h246))))) ∧
(ldB (Addr.mk b3 0 none) h240 fun b242 =>
(bsel b242
(bsel (x228 == (IntKind.wrap .i64 ((Int.ofNat s195.len) - (1 : Int))))
(f_demesneref03_Bit x239 (6 : Int) (fun b243 h244 =>
(bsel (!b243)
(R241 (IntKind.wrap .u64 (x239 + (64 : Int))) h244)
(R241 x239 h244))) h240)
(R241 x239 h240))
(R241 x239 h240))))) ∧
(f_demesneref03_Bit n234 (5 : Int) (fun b237 h238 =>
(bsel (!b237)
(R236 (IntKind.wrap .u64 (n234 + (32 : Int))) h238)
(R236 n234 h238))) h235))) h227)))))))
(ldI .i64 (Addr.mk b42 0 none) h227 fun n251 =>
(ldB (Addr.add (Addr.mk b42 0 none) 1) h227 fun b252 =>
(ldB (Addr.add (Addr.mk b42 0 none) 2) h227 fun b253 =>
(ldB (Addr.add (Addr.mk b42 0 none) 3) h227 fun b254 =>
(ldB (Addr.add (Addr.mk b42 0 none) 4) h227 fun b255 =>
(ldB (Addr.add (Addr.mk b42 0 none) 5) h227 fun b256 =>
(ldB (Addr.add (Addr.mk b42 0 none) 6) h227 fun b257 =>
(stC (Addr.mk b5 0 none) (.int .i64 n251) h227 fun h258 =>
(stC (Addr.add (Addr.mk b5 0 none) 1) (.bool b252) h258 fun h259 =>
(stC (Addr.add (Addr.mk b5 0 none) 2) (.bool b253) h259 fun h260 =>
(stC (Addr.add (Addr.mk b5 0 none) 3) (.bool b254) h260 fun h261 =>
(stC (Addr.add (Addr.mk b5 0 none) 4) (.bool b255) h261 fun h262 =>
(stC (Addr.add (Addr.mk b5 0 none) 5) (.bool b256) h262 fun h263 =>
(stC (Addr.add (Addr.mk b5 0 none) 6) (.bool b257) h263 fun h264 =>
(ldI .i64 (Addr.mk b5 0 none) h264 fun n265 =>
(ldB (Addr.add (Addr.mk b5 0 none) 1) h264 fun b266 =>
(ldB (Addr.add (Addr.mk b5 0 none) 2) h264 fun b267 =>
(ldB (Addr.add (Addr.mk b5 0 none) 3) h264 fun b268 =>
(ldB (Addr.add (Addr.mk b5 0 none) 4) h264 fun b269 =>
(ldB (Addr.add (Addr.mk b5 0 none) 5) h264 fun b270 =>
(ldB (Addr.add (Addr.mk b5 0 none) 6) h264 fun b271 =>
(Q n265 b266 b267 b268 b269 b270 b271 (0 : Int) (0 : Int) h264)))))))))))))))))))))))))) h196)))))))) ∧
(∃ I54 : Sl → Int → Int → Nat → Hp → Prop, (∃ m55, I54 (Sl.mk (some (Addr.mk b51 0 none)) 0 0) p3 (4 : Int) m55 h52) ∧ ∀ s58 : Sl, ∀ x59 : Int, ∀ x60 : Int, ∀ m55 h57, I54 s58 x59 x60 m55 h57 → 
(bsel (decide (x60 > (0 : Int)))
(ldI .i64 (Addr.mk b1 0 none) h57 fun n61 =>
(ldS (Addr.add (Addr.mk b1 0 none) 1) h57 fun s62 =>
(ldM (Addr.add (Addr.mk b1 0 none) 2) h57 fun mp63 =>
(f_demesneref01_Has n61 s62 mp63 x59 (fun b64 h65 =>
(bsel (!b64)
(stC (Addr.mk b5 0 none) (.int .i64 (0 : Int)) h65 fun h66 =>
(stC (Addr.add (Addr.mk b5 0 none) 1) (.bool false) h66 fun h67 =>
(stC (Addr.add (Addr.mk b5 0 none) 2) (.bool false) h67 fun h68 =>
(stC (Addr.add (Addr.mk b5 0 none) 3) (.bool false) h68 fun h69 =>
(stC (Addr.add (Addr.mk b5 0 none) 4) (.bool false) h69 fun h70 =>
(stC (Addr.add (Addr.mk b5 0 none) 5) (.bool false) h70 fun h71 =>
(stC (Addr.add (Addr.mk b5 0 none) 6) (.bool false) h71 fun h72 =>
(ldI .i64 (Addr.mk b5 0 none) h72 fun n73 =>
(ldB (Addr.add (Addr.mk b5 0 none) 1) h72 fun b74 =>
(ldB (Addr.add (Addr.mk b5 0 none) 2) h72 fun b75 =>
(ldB (Addr.add (Addr.mk b5 0 none) 3) h72 fun b76 =>
(ldB (Addr.add (Addr.mk b5 0 none) 4) h72 fun b77 =>
(ldB (Addr.add (Addr.mk b5 0 none) 5) h72 fun b78 =>
(ldB (Addr.add (Addr.mk b5 0 none) 6) h72 fun b79 =>
(Q n73 b74 b75 b76 b77 b78 b79 (0 : Int) (2 : Int) h72)))))))))))))))
(f_demesneref03_Part p4 (IntKind.wrap .i64 ((3 : Int) + (IntKind.wrap .i64 ((9 : Int) * x60)))) (9 : Int) (fun n80 h81 =>
(ldI .i64 (Addr.mk b1 0 none) h81 fun n82 =>
(ldS (Addr.add (Addr.mk b1 0 none) 1) h81 fun s83 =>
(ldM (Addr.add (Addr.mk b1 0 none) 2) h81 fun mp84 =>
(f_demesneref01_Load n82 s83 mp84 (IntKind.wrap .u64 ((IntKind.wrap .u64 ((IntKind.wrap .u64 x59) * (4096 : Int))) + (IntKind.wrap .u64 ((8 : Int) * (IntKind.wrap .u64 n80))))) (8 : Int) (fun n85 h86 =>
(f_demesneref03_Unpack n85 (fun b87 b88 b89 b90 b91 b92 b93 b94 n95 h96 =>
(newB h96 (.cells #[(.bool false), (.bool false), (.bool false), (.bool false), (.bool false), (.bool false), (.bool false), (.bool false), (.int .i64 (0 : Int))] 92) fun b97 h98 =>
(stC (Addr.mk b97 0 none) (.bool b87) h98 fun h99 =>
(stC (Addr.add (Addr.mk b97 0 none) 1) (.bool b88) h99 fun h100 =>
(stC (Addr.add (Addr.mk b97 0 none) 2) (.bool b89) h100 fun h101 =>
(stC (Addr.add (Addr.mk b97 0 none) 3) (.bool b90) h101 fun h102 =>
(stC (Addr.add (Addr.mk b97 0 none) 4) (.bool b91) h102 fun h103 =>
(stC (Addr.add (Addr.mk b97 0 none) 5) (.bool b92) h103 fun h104 =>
(stC (Addr.add (Addr.mk b97 0 none) 6) (.bool b93) h104 fun h105 =>
(stC (Addr.add (Addr.mk b97 0 none) 7) (.bool b94) h105 fun h106 =>
(stC (Addr.add (Addr.mk b97 0 none) 8) (.int .i64 n95) h106 fun h107 =>
(ldB (Addr.mk b97 0 none) h107 fun b108 =>
(bsel (!b108)
(ldB (Addr.mk b3 0 none) h107 fun b109 =>
(ldB (Addr.add (Addr.mk b3 0 none) 1) h107 fun b110 =>
(ldB (Addr.add (Addr.mk b3 0 none) 2) h107 fun b111 =>
(f_demesneref04_Code b109 b110 b111 (fun n112 h113 =>
(stC (Addr.mk b5 0 none) (.int .i64 (0 : Int)) h113 fun h114 =>
(stC (Addr.add (Addr.mk b5 0 none) 1) (.bool false) h114 fun h115 =>
(stC (Addr.add (Addr.mk b5 0 none) 2) (.bool false) h115 fun h116 =>
(stC (Addr.add (Addr.mk b5 0 none) 3) (.bool false) h116 fun h117 =>
(stC (Addr.add (Addr.mk b5 0 none) 4) (.bool false) h117 fun h118 =>
(stC (Addr.add (Addr.mk b5 0 none) 5) (.bool false) h118 fun h119 =>
(stC (Addr.add (Addr.mk b5 0 none) 6) (.bool false) h119 fun h120 =>
(ldI .i64 (Addr.mk b5 0 none) h120 fun n121 =>
(ldB (Addr.add (Addr.mk b5 0 none) 1) h120 fun b122 =>
(ldB (Addr.add (Addr.mk b5 0 none) 2) h120 fun b123 =>
(ldB (Addr.add (Addr.mk b5 0 none) 3) h120 fun b124 =>
(ldB (Addr.add (Addr.mk b5 0 none) 4) h120 fun b125 =>
(ldB (Addr.add (Addr.mk b5 0 none) 5) h120 fun b126 =>
(ldB (Addr.add (Addr.mk b5 0 none) 6) h120 fun b127 =>
(Q n121 b122 b123 b124 b125 b126 b127 n112 (9 : Int) h120)))))))))))))))) h107))))
(f_demesneref03_Reserved n85 x60 (fun b128 h129 =>
(bsel b128
(ldB (Addr.mk b3 0 none) h129 fun b130 =>
(ldB (Addr.add (Addr.mk b3 0 none) 1) h129 fun b131 =>
(ldB (Addr.add (Addr.mk b3 0 none) 2) h129 fun b132 =>
(f_demesneref04_Code b130 b131 b132 (fun n133 h134 =>
(stC (Addr.mk b5 0 none) (.int .i64 (0 : Int)) h134 fun h135 =>
(stC (Addr.add (Addr.mk b5 0 none) 1) (.bool false) h135 fun h136 =>
(stC (Addr.add (Addr.mk b5 0 none) 2) (.bool false) h136 fun h137 =>
(stC (Addr.add (Addr.mk b5 0 none) 3) (.bool false) h137 fun h138 =>
(stC (Addr.add (Addr.mk b5 0 none) 4) (.bool false) h138 fun h139 =>
(stC (Addr.add (Addr.mk b5 0 none) 5) (.bool false) h139 fun h140 =>
(stC (Addr.add (Addr.mk b5 0 none) 6) (.bool false) h140 fun h141 =>
(ldI .i64 (Addr.mk b5 0 none) h141 fun n142 =>
(ldB (Addr.add (Addr.mk b5 0 none) 1) h141 fun b143 =>
(ldB (Addr.add (Addr.mk b5 0 none) 2) h141 fun b144 =>
(ldB (Addr.add (Addr.mk b5 0 none) 3) h141 fun b145 =>
(ldB (Addr.add (Addr.mk b5 0 none) 4) h141 fun b146 =>
(ldB (Addr.add (Addr.mk b5 0 none) 5) h141 fun b147 =>
(ldB (Addr.add (Addr.mk b5 0 none) 6) h141 fun b148 =>
(Q n142 b143 b144 b145 b146 b147 b148 (IntKind.wrap .i64 ((9 : Int) + n133)) (9 : Int) h141)))))))))))))))) h129))))
(newB h129 (.cells #[(.int .u64 (IntKind.wrap .u64 ((IntKind.wrap .u64 ((IntKind.wrap .u64 x59) * (4096 : Int))) + (IntKind.wrap .u64 ((8 : Int) * (IntKind.wrap .u64 n80))))))] 32) fun b149 h150 =>
(apH 1 8 #[(.int .u64 (0 : Int))] 32 s58 (Sl.mk (some (Addr.mk b149 0 none)) 1 1) h150 fun s151 h152 =>
(∃ R153 : Hp → Prop, (∀ h158, R153 h158 → 
(∃ R159 : Hp → Prop, (∀ h164, R159 h164 → 
(∃ R165 : Hp → Prop, (∀ h170, R165 h170 → 
(ldI .i64 (Addr.add (Addr.mk b97 0 none) 8) h170 fun n171 =>
(∃ R172 : Bool → Hp → Prop, (∀ b174 : Bool, ∀ h175, R172 b174 h175 → 
(bsel b174
(ldI .i64 (Addr.add (Addr.mk b97 0 none) 8) h175 fun n176 =>
(stC (Addr.mk b42 0 none) (.int .i64 n176) h175 fun h177 =>
(ldB (Addr.add (Addr.mk b97 0 none) 6) h177 fun b178 =>
(stC (Addr.add (Addr.mk b42 0 none) 4) (.bool b178) h177 fun h179 =>
(∃ R180 : Hp → Prop, (∀ h185, R180 h185 → 
(stC (Addr.add (Addr.mk b42 0 none) 5) (.bool (x60 == (2 : Int))) h185 fun h186 =>
(ldB (Addr.add (Addr.mk b42 0 none) 5) h186 fun b187 =>
(bsel b187
(∃ S188 : Hp → Prop, S188 h186 ∧
(ldI .i64 (Addr.mk b42 0 none) h186 fun n189 =>
(S188 h186 ∧ (∀ h193 : Hp, S188 h193 → (ldI .i64 (Addr.mk b42 0 none) h193 fun n194 =>
(((.int .i64 n194) : Value) = (.int .i64 n189)))) ∧
(f_demesneref03_Part p4 (12 : Int) (9 : Int) (fun n190 h191 =>
(S188 h191 ∧
(stC (Addr.mk b42 0 none) (.int .i64 (IntKind.wrap .i64 (n189 + n190))) h191 fun h192 =>
(R53 s151 h192)))) h186))))
(R53 s151 h186))))) ∧
(ldB (Addr.add (Addr.mk b97 0 none) 4) h179 fun b181 =>
(bsel b181
(stC (Addr.add (Addr.mk b42 0 none) 6) (.bool true) h179 fun h182 =>
(R180 h182))
(ldB (Addr.mk b3 0 none) h179 fun b183 =>
(stC (Addr.add (Addr.mk b42 0 none) 6) (.bool b183) h179 fun h184 =>
(R180 h184))))))))))
(∃ m56, m56 < m55 ∧ I54 s151 n171 (IntKind.wrap .i64 (x60 - (1 : Int))) m56 h175))) ∧
(bsel (x60 == (1 : Int))
(R172 true h170)
(bsel (x60 == (2 : Int))
(ldB (Addr.add (Addr.mk b97 0 none) 5) h170 fun b173 =>
(R172 b173 h170))
(R172 false h170)))))) ∧
(ldB (Addr.add (Addr.mk b42 0 none) 3) h164 fun b166 =>
(bsel b166
(ldB (Addr.add (Addr.mk b97 0 none) 7) h164 fun b167 =>
(stC (Addr.add (Addr.mk b42 0 none) 3) (.bool (!b167)) h164 fun h168 =>
(R165 h168)))
(stC (Addr.add (Addr.mk b42 0 none) 3) (.bool false) h164 fun h169 =>
(R165 h169)))))) ∧
(ldB (Addr.add (Addr.mk b42 0 none) 2) h158 fun b160 =>
(bsel b160
(ldB (Addr.add (Addr.mk b97 0 none) 2) h158 fun b161 =>
(stC (Addr.add (Addr.mk b42 0 none) 2) (.bool b161) h158 fun h162 =>
(R159 h162)))
(stC (Addr.add (Addr.mk b42 0 none) 2) (.bool false) h158 fun h163 =>
(R159 h163)))))) ∧
(ldB (Addr.add (Addr.mk b42 0 none) 1) h152 fun b154 =>
(bsel b154
(ldB (Addr.add (Addr.mk b97 0 none) 1) h152 fun b155 =>
(stC (Addr.add (Addr.mk b42 0 none) 1) (.bool b155) h152 fun h156 =>
(R153 h156)))
(stC (Addr.add (Addr.mk b42 0 none) 1) (.bool false) h152 fun h157 =>
(R153 h157))))))))) h107)))))))))))))) h86)) h81))))) h65))) h57))))
(R53 s58 h57))))))))))))))) h8)))))) h6))))
def demesneref04_Walk : demesneref04_Walk_T := demesneref04_Walk_G demesneref04_May demesneref01_Store demesneref03_Canonical demesneref01_Has demesneref03_Part demesneref01_Load demesneref03_Unpack demesneref04_Code demesneref03_Reserved demesneref03_Bit

/- demesne/demesnelaw04.Same -/
abbrev demesnelaw04_Same_T := Option Addr → Int → Sl → Option Nat → Sl → (Int → Hp → Prop) → Hp → Prop
def demesnelaw04_Same_G (f_ram_RAM_Load : ram_RAM_Load_T) (f_demesneref01_Load : demesneref01_Load_T) (p0 : Option Addr) (p1 : Int) (p2 : Sl) (p3 : Option Nat) (p4 : Sl) (Q : Int → Hp → Prop) (h : Hp) : Prop :=
(newB h (.cells #[(.int .i64 p1), (.slice p2.a p2.len p2.cap), (.map p3)] 28) fun b1 h2 =>
(∃ I3 : Int → Nat → Hp → Prop, (∃ m4, I3 (0 : Int) m4 h2) ∧ ∀ x7 : Int, ∀ m4 h6, I3 x7 m4 h6 → 
(bsel (decide (x7 < (Int.ofNat p4.len)))
(bsel (decide (x7 < (40 : Int)))
(∃ R8 : Hp → Prop, (∀ h32, R8 h32 → 
(∃ m5, m5 < m4 ∧ I3 (IntKind.wrap .i64 (x7 + (1 : Int))) m5 h32)) ∧
(onSome p4.a fun a9 =>
(inB x7 p4.len
(ldI .i64 (Addr.add a9 (Int.toNat x7 * 3)) h6 fun n10 =>
(ldI .i64 (Addr.add (Addr.add a9 (Int.toNat x7 * 3)) 1) h6 fun n11 =>
(ldI .u64 (Addr.add (Addr.add a9 (Int.toNat x7 * 3)) 2) h6 fun n12 =>
(newB h6 (.cells #[(.int .i64 (0 : Int)), (.int .i64 (0 : Int)), (.int .u64 (0 : Int))] 60) fun b13 h14 =>
(stC (Addr.mk b13 0 none) (.int .i64 n10) h14 fun h15 =>
(stC (Addr.add (Addr.mk b13 0 none) 1) (.int .i64 n11) h15 fun h16 =>
(stC (Addr.add (Addr.mk b13 0 none) 2) (.int .u64 n12) h16 fun h17 =>
(ldI .i64 (Addr.mk b13 0 none) h17 fun n18 =>
(bsel (decide (n18 < (0 : Int)))
(R8 h17)
(ldI .i64 (Addr.mk b13 0 none) h17 fun n19 =>
(bsel (decide (n19 > (6 : Int)))
(R8 h17)
(ldI .i64 (Addr.add (Addr.mk b13 0 none) 1) h17 fun n20 =>
(bsel (decide (n20 < (0 : Int)))
(R8 h17)
(ldI .i64 (Addr.add (Addr.mk b13 0 none) 1) h17 fun n21 =>
(bsel (decide (n21 > (511 : Int)))
(R8 h17)
(ldI .i64 (Addr.mk b13 0 none) h17 fun n22 =>
(ldI .i64 (Addr.add (Addr.mk b13 0 none) 1) h17 fun n23 =>
(f_ram_RAM_Load p0 (IntKind.wrap .u64 ((IntKind.wrap .u64 ((IntKind.wrap .u64 n22) * (4096 : Int))) + (IntKind.wrap .u64 (IntKind.wrap .i64 ((8 : Int) * n23))))) (8 : Int) (fun n24 n25 h26 =>
(bsel (n25 != (0 : Int))
(Q (-1 : Int) h26)
(ldI .i64 (Addr.mk b1 0 none) h26 fun n27 =>
(ldS (Addr.add (Addr.mk b1 0 none) 1) h26 fun s28 =>
(ldM (Addr.add (Addr.mk b1 0 none) 2) h26 fun mp29 =>
(f_demesneref01_Load n27 s28 mp29 (IntKind.wrap .u64 ((IntKind.wrap .u64 ((IntKind.wrap .u64 n22) * (4096 : Int))) + (IntKind.wrap .u64 (IntKind.wrap .i64 ((8 : Int) * n23))))) (8 : Int) (fun n30 h31 =>
(bsel (n24 != n30)
(Q (-1 : Int) h31)
(R8 h31))) h26)))))) h17)))))))))))))))))))))
(Q (0 : Int) h6))
(Q (0 : Int) h6))))
def demesnelaw04_Same : demesnelaw04_Same_T := demesnelaw04_Same_G ram_RAM_Load demesneref01_Load

/- demesne/demesnelaw04.WalkPlays -/
abbrev demesnelaw04_WalkPlays_T := Sl → Sl → (Bool → Hp → Prop) → Hp → Prop
def demesnelaw04_WalkPlays_G (f_demesnelaw04_Lay : demesnelaw04_Lay_T) (f_demesnelaw04_awake : demesnelaw04_awake_T) (f_walk_Walk : walk_Walk_T) (f_demesneref04_Walk : demesneref04_Walk_T) (f_demesnelaw04_Same : demesnelaw04_Same_T) (p0 : Sl) (p1 : Sl) (Q : Bool → Hp → Prop) (h : Hp) : Prop :=
(f_demesnelaw04_Lay p0 (fun pt1 n2 s3 mp4 h5 =>
(newB h5 (.cells #[(.int .i64 (0 : Int)), (.slice none 0 0), (.map none)] 28) fun b6 h7 =>
(stC (Addr.mk b6 0 none) (.int .i64 n2) h7 fun h8 =>
(stC (Addr.add (Addr.mk b6 0 none) 1) (.slice s3.a s3.len s3.cap) h8 fun h9 =>
(stC (Addr.add (Addr.mk b6 0 none) 2) (.map mp4) h9 fun h10 =>
(f_demesnelaw04_awake  (fun b11 h12 =>
(bsel (!b11)
(Q false h12)
(bsel pt1.isNone
(Q false h12)
(∃ I13 : Int → Nat → Hp → Prop, (∃ m14, I13 (0 : Int) m14 h12) ∧ ∀ x17 : Int, ∀ m14 h16, I13 x17 m14 h16 → 
(bsel (decide (x17 < (Int.ofNat p1.len)))
(bsel (decide (x17 < (20 : Int)))
(onSome p1.a fun a18 =>
(inB x17 p1.len
(ldI .i64 (Addr.add a18 (Int.toNat x17 * 5)) h16 fun n19 =>
(ldI .u64 (Addr.add (Addr.add a18 (Int.toNat x17 * 5)) 1) h16 fun n20 =>
(ldB (Addr.add (Addr.add a18 (Int.toNat x17 * 5)) 2) h16 fun b21 =>
(ldB (Addr.add (Addr.add a18 (Int.toNat x17 * 5)) 3) h16 fun b22 =>
(ldB (Addr.add (Addr.add a18 (Int.toNat x17 * 5)) 4) h16 fun b23 =>
(newB h16 (.cells #[(.int .i64 (0 : Int)), (.int .u64 (0 : Int)), (.bool false), (.bool false), (.bool false)] 36) fun b24 h25 =>
(stC (Addr.mk b24 0 none) (.int .i64 n19) h25 fun h26 =>
(stC (Addr.add (Addr.mk b24 0 none) 1) (.int .u64 n20) h26 fun h27 =>
(stC (Addr.add (Addr.mk b24 0 none) 2) (.bool b21) h27 fun h28 =>
(stC (Addr.add (Addr.mk b24 0 none) 3) (.bool b22) h28 fun h29 =>
(stC (Addr.add (Addr.mk b24 0 none) 4) (.bool b23) h29 fun h30 =>
(ldI .i64 (Addr.mk b24 0 none) h30 fun n31 =>
(ldI .u64 (Addr.add (Addr.mk b24 0 none) 1) h30 fun n32 =>
(ldB (Addr.add (Addr.mk b24 0 none) 2) h30 fun b33 =>
(ldB (Addr.add (Addr.add (Addr.mk b24 0 none) 2) 1) h30 fun b34 =>
(ldB (Addr.add (Addr.add (Addr.mk b24 0 none) 2) 2) h30 fun b35 =>
(f_walk_Walk pt1 n31 n32 b33 b34 b35 (fun n36 b37 b38 b39 b40 b41 b42 n43 n44 n45 h46 =>
(newB h46 (.cells #[(.int .i64 (0 : Int)), (.bool false), (.bool false), (.bool false), (.bool false), (.bool false), (.bool false)] 40) fun b47 h48 =>
(newB h48 (.cells #[(.int .u64 (0 : Int)), (.int .i64 (0 : Int))] 42) fun b49 h50 =>
(stC (Addr.mk b47 0 none) (.int .i64 n36) h50 fun h51 =>
(stC (Addr.add (Addr.mk b47 0 none) 1) (.bool b37) h51 fun h52 =>
(stC (Addr.add (Addr.mk b47 0 none) 2) (.bool b38) h52 fun h53 =>
(stC (Addr.add (Addr.mk b47 0 none) 3) (.bool b39) h53 fun h54 =>
(stC (Addr.add (Addr.mk b47 0 none) 4) (.bool b40) h54 fun h55 =>
(stC (Addr.add (Addr.mk b47 0 none) 5) (.bool b41) h55 fun h56 =>
(stC (Addr.add (Addr.mk b47 0 none) 6) (.bool b42) h56 fun h57 =>
(stC (Addr.mk b49 0 none) (.int .u64 n43) h57 fun h58 =>
(stC (Addr.add (Addr.mk b49 0 none) 1) (.int .i64 n44) h58 fun h59 =>
(ldI .i64 (Addr.mk b6 0 none) h59 fun n60 =>
(ldS (Addr.add (Addr.mk b6 0 none) 1) h59 fun s61 =>
(ldM (Addr.add (Addr.mk b6 0 none) 2) h59 fun mp62 =>
(ldI .i64 (Addr.mk b24 0 none) h59 fun n63 =>
(ldI .u64 (Addr.add (Addr.mk b24 0 none) 1) h59 fun n64 =>
(ldB (Addr.add (Addr.mk b24 0 none) 2) h59 fun b65 =>
(ldB (Addr.add (Addr.add (Addr.mk b24 0 none) 2) 1) h59 fun b66 =>
(ldB (Addr.add (Addr.add (Addr.mk b24 0 none) 2) 2) h59 fun b67 =>
(f_demesneref04_Walk n60 s61 mp62 n63 n64 b65 b66 b67 (fun n68 b69 b70 b71 b72 b73 b74 n75 n76 h77 =>
(newB h77 (.cells #[(.int .i64 (0 : Int)), (.bool false), (.bool false), (.bool false), (.bool false), (.bool false), (.bool false)] 47) fun b78 h79 =>
(stC (Addr.mk b78 0 none) (.int .i64 n68) h79 fun h80 =>
(stC (Addr.add (Addr.mk b78 0 none) 1) (.bool b69) h80 fun h81 =>
(stC (Addr.add (Addr.mk b78 0 none) 2) (.bool b70) h81 fun h82 =>
(stC (Addr.add (Addr.mk b78 0 none) 3) (.bool b71) h82 fun h83 =>
(stC (Addr.add (Addr.mk b78 0 none) 4) (.bool b72) h83 fun h84 =>
(stC (Addr.add (Addr.mk b78 0 none) 5) (.bool b73) h84 fun h85 =>
(stC (Addr.add (Addr.mk b78 0 none) 6) (.bool b74) h85 fun h86 =>
(newB h86 (.cells #[(.int .u64 (0 : Int)), (.int .i64 (0 : Int))] 42) fun b87 h88 =>
(stC (Addr.mk b87 0 none) (.int .u64 (0 : Int)) h88 fun h89 =>
(stC (Addr.add (Addr.mk b87 0 none) 1) (.int .i64 (0 : Int)) h89 fun h90 =>
(∃ R91 : Hp → Prop, (∀ h95, R91 h95 → 
(bsel (n45 != n76)
(Q false h95)
(ldI .u64 (Addr.mk b49 0 none) h95 fun n96 =>
(ldI .i64 (Addr.add (Addr.mk b49 0 none) 1) h95 fun n97 =>
(ldI .u64 (Addr.mk b87 0 none) h95 fun n98 =>
(ldI .i64 (Addr.add (Addr.mk b87 0 none) 1) h95 fun n99 =>
(bsel (!((n96 == n98) && ((n97 == n99) && true)))
(Q false h95)
(ldI .i64 (Addr.mk b47 0 none) h95 fun n100 =>
(ldB (Addr.add (Addr.mk b47 0 none) 1) h95 fun b101 =>
(ldB (Addr.add (Addr.mk b47 0 none) 2) h95 fun b102 =>
(ldB (Addr.add (Addr.mk b47 0 none) 3) h95 fun b103 =>
(ldB (Addr.add (Addr.mk b47 0 none) 4) h95 fun b104 =>
(ldB (Addr.add (Addr.mk b47 0 none) 5) h95 fun b105 =>
(ldB (Addr.add (Addr.mk b47 0 none) 6) h95 fun b106 =>
(ldI .i64 (Addr.mk b78 0 none) h95 fun n107 =>
(ldB (Addr.add (Addr.mk b78 0 none) 1) h95 fun b108 =>
(ldB (Addr.add (Addr.mk b78 0 none) 2) h95 fun b109 =>
(ldB (Addr.add (Addr.mk b78 0 none) 3) h95 fun b110 =>
(ldB (Addr.add (Addr.mk b78 0 none) 4) h95 fun b111 =>
(ldB (Addr.add (Addr.mk b78 0 none) 5) h95 fun b112 =>
(ldB (Addr.add (Addr.mk b78 0 none) 6) h95 fun b113 =>
(bsel (!((n100 == n107) && (((b101 == b108) && ((b102 == b109) && ((b103 == b110) && true))) && ((b104 == b111) && ((b105 == b112) && ((b106 == b113) && true))))))
(Q false h95)
(ldI .i64 (Addr.mk b6 0 none) h95 fun n114 =>
(ldS (Addr.add (Addr.mk b6 0 none) 1) h95 fun s115 =>
(ldM (Addr.add (Addr.mk b6 0 none) 2) h95 fun mp116 =>
(f_demesnelaw04_Same pt1 n114 s115 mp116 p0 (fun n117 h118 =>
(bsel (n117 != (0 : Int))
(Q false h118)
(∃ m15, m15 < m14 ∧ I13 (IntKind.wrap .i64 (x17 + (1 : Int))) m15 h118))) h95)))))))))))))))))))))))))) ∧
(bsel (n76 == (9 : Int))
(ldI .u64 (Addr.add (Addr.mk b24 0 none) 1) h90 fun n92 =>
(stC (Addr.mk b87 0 none) (.int .u64 n92) h90 fun h93 =>
(stC (Addr.add (Addr.mk b87 0 none) 1) (.int .i64 n75) h93 fun h94 =>
(R91 h94))))
(R91 h90))))))))))))))) h59))))))))))))))))))))) h30)))))))))))))))))))
(Q true h16))
(Q true h16)))))) h10)))))) h)
def demesnelaw04_WalkPlays : demesnelaw04_WalkPlays_T := demesnelaw04_WalkPlays_G demesnelaw04_Lay demesnelaw04_awake walk_Walk demesneref04_Walk demesnelaw04_Same

/- demesne/demesnelaw04.WalkMays -/
abbrev demesnelaw04_WalkMays_T := Bool → Bool → Bool → Bool → Bool → Bool → (Bool → Hp → Prop) → Hp → Prop
def demesnelaw04_WalkMays_G (f_demesnelaw04_awake : demesnelaw04_awake_T) (f_walk_May : walk_May_T) (f_demesneref04_May : demesneref04_May_T) (p0 : Bool) (p1 : Bool) (p2 : Bool) (p3 : Bool) (p4 : Bool) (p5 : Bool) (Q : Bool → Hp → Prop) (h : Hp) : Prop :=
(newB h (.cells #[(.bool p0), (.bool p1), (.bool p2)] 38) fun b1 h2 =>
(newB h2 (.cells #[(.bool p3), (.bool p4), (.bool p5)] 34) fun b3 h4 =>
(∃ S5 : Hp → Prop, S5 h4 ∧
(f_demesnelaw04_awake  (fun b6 h7 =>
(S5 h7 ∧
(bsel b6
(ldB (Addr.mk b1 0 none) h7 fun b8 =>
(ldB (Addr.add (Addr.mk b1 0 none) 1) h7 fun b9 =>
(ldB (Addr.add (Addr.mk b1 0 none) 2) h7 fun b10 =>
(S5 h7 ∧ (∀ h38 : Hp, S5 h38 → (ldB (Addr.mk b1 0 none) h38 fun b39 =>
(ldB (Addr.add (Addr.mk b1 0 none) 1) h38 fun b40 =>
(ldB (Addr.add (Addr.mk b1 0 none) 2) h38 fun b41 =>
(((.agg #[(.bool b39), (.bool b40), (.bool b41)]) : Value) = (.agg #[(.bool b8), (.bool b9), (.bool b10)])))))) ∧
(ldB (Addr.mk b3 0 none) h7 fun b11 =>
(ldB (Addr.add (Addr.mk b3 0 none) 1) h7 fun b12 =>
(ldB (Addr.add (Addr.mk b3 0 none) 2) h7 fun b13 =>
(S5 h7 ∧ (∀ h34 : Hp, S5 h34 → (ldB (Addr.mk b3 0 none) h34 fun b35 =>
(ldB (Addr.add (Addr.mk b3 0 none) 1) h34 fun b36 =>
(ldB (Addr.add (Addr.mk b3 0 none) 2) h34 fun b37 =>
(((.agg #[(.bool b35), (.bool b36), (.bool b37)]) : Value) = (.agg #[(.bool b11), (.bool b12), (.bool b13)])))))) ∧
(ldB (Addr.mk b1 0 none) h7 fun b14 =>
(S5 h7 ∧ (∀ h32 : Hp, S5 h32 → (ldB (Addr.mk b1 0 none) h32 fun b33 =>
(((.bool b33) : Value) = (.bool b14)))) ∧
(ldB (Addr.add (Addr.mk b1 0 none) 1) h7 fun b15 =>
(S5 h7 ∧ (∀ h30 : Hp, S5 h30 → (ldB (Addr.add (Addr.mk b1 0 none) 1) h30 fun b31 =>
(((.bool b31) : Value) = (.bool b15)))) ∧
(ldB (Addr.add (Addr.mk b1 0 none) 2) h7 fun b16 =>
(S5 h7 ∧ (∀ h28 : Hp, S5 h28 → (ldB (Addr.add (Addr.mk b1 0 none) 2) h28 fun b29 =>
(((.bool b29) : Value) = (.bool b16)))) ∧
(ldB (Addr.mk b3 0 none) h7 fun b17 =>
(ldB (Addr.add (Addr.mk b3 0 none) 1) h7 fun b18 =>
(ldB (Addr.add (Addr.mk b3 0 none) 2) h7 fun b19 =>
(S5 h7 ∧ (∀ h24 : Hp, S5 h24 → (ldB (Addr.mk b3 0 none) h24 fun b25 =>
(ldB (Addr.add (Addr.mk b3 0 none) 1) h24 fun b26 =>
(ldB (Addr.add (Addr.mk b3 0 none) 2) h24 fun b27 =>
(((.agg #[(.bool b25), (.bool b26), (.bool b27)]) : Value) = (.agg #[(.bool b17), (.bool b18), (.bool b19)])))))) ∧
(f_walk_May b8 b9 b10 b11 b12 b13 (fun b20 h21 =>
(S5 h21 ∧
(f_demesneref04_May b14 b15 b16 b17 b18 b19 (fun b22 h23 =>
(S5 h23 ∧
(Q (b20 == b22) h23))) h21))) h7)))))))))))))))))))
(S5 h7 ∧
(S5 h7 ∧
(Q false h7)))))) h4))))
def demesnelaw04_WalkMays : demesnelaw04_WalkMays_T := demesnelaw04_WalkMays_G demesnelaw04_awake walk_May demesneref04_May

/- demesne/demesnelaw04.WalkAgain -/
abbrev demesnelaw04_WalkAgain_T := Sl → Int → Int → Bool → Bool → Bool → Bool → Bool → Bool → (Bool → Hp → Prop) → Hp → Prop
def demesnelaw04_WalkAgain_G (f_demesnelaw04_Lay : demesnelaw04_Lay_T) (f_demesnelaw04_awake : demesnelaw04_awake_T) (f_walk_Walk : walk_Walk_T) (f_walk_May : walk_May_T) (p0 : Sl) (p1 : Int) (p2 : Int) (p3 : Bool) (p4 : Bool) (p5 : Bool) (p6 : Bool) (p7 : Bool) (p8 : Bool) (Q : Bool → Hp → Prop) (h : Hp) : Prop :=
(newB h (.cells #[(.int .i64 p1), (.int .u64 p2), (.bool p3), (.bool p4), (.bool p5)] 36) fun b1 h2 =>
(newB h2 (.cells #[(.bool p6), (.bool p7), (.bool p8)] 34) fun b3 h4 =>
(f_demesnelaw04_Lay p0 (fun pt5 n6 s7 mp8 h9 =>
(newB h9 (.cells #[(.int .i64 (0 : Int)), (.slice none 0 0), (.map none)] 28) fun b10 h11 =>
(stC (Addr.mk b10 0 none) (.int .i64 n6) h11 fun h12 =>
(stC (Addr.add (Addr.mk b10 0 none) 1) (.slice s7.a s7.len s7.cap) h12 fun h13 =>
(stC (Addr.add (Addr.mk b10 0 none) 2) (.map mp8) h13 fun h14 =>
(bsel pt5.isNone
(Q false h14)
(ldI .i64 (Addr.mk b1 0 none) h14 fun n15 =>
(ldI .u64 (Addr.add (Addr.mk b1 0 none) 1) h14 fun n16 =>
(ldB (Addr.add (Addr.mk b1 0 none) 2) h14 fun b17 =>
(ldB (Addr.add (Addr.add (Addr.mk b1 0 none) 2) 1) h14 fun b18 =>
(ldB (Addr.add (Addr.add (Addr.mk b1 0 none) 2) 2) h14 fun b19 =>
(f_walk_Walk pt5 n15 n16 b17 b18 b19 (fun n20 b21 b22 b23 b24 b25 b26 n27 n28 n29 h30 =>
(newB h30 (.cells #[(.int .i64 (0 : Int)), (.bool false), (.bool false), (.bool false), (.bool false), (.bool false), (.bool false)] 40) fun b31 h32 =>
(newB h32 (.cells #[(.int .u64 (0 : Int)), (.int .i64 (0 : Int))] 42) fun b33 h34 =>
(stC (Addr.mk b31 0 none) (.int .i64 n20) h34 fun h35 =>
(stC (Addr.add (Addr.mk b31 0 none) 1) (.bool b21) h35 fun h36 =>
(stC (Addr.add (Addr.mk b31 0 none) 2) (.bool b22) h36 fun h37 =>
(stC (Addr.add (Addr.mk b31 0 none) 3) (.bool b23) h37 fun h38 =>
(stC (Addr.add (Addr.mk b31 0 none) 4) (.bool b24) h38 fun h39 =>
(stC (Addr.add (Addr.mk b31 0 none) 5) (.bool b25) h39 fun h40 =>
(stC (Addr.add (Addr.mk b31 0 none) 6) (.bool b26) h40 fun h41 =>
(stC (Addr.mk b33 0 none) (.int .u64 n27) h41 fun h42 =>
(stC (Addr.add (Addr.mk b33 0 none) 1) (.int .i64 n28) h42 fun h43 =>
(ldI .i64 (Addr.mk b1 0 none) h43 fun n44 =>
(ldI .u64 (Addr.add (Addr.mk b1 0 none) 1) h43 fun n45 =>
(ldB (Addr.add (Addr.mk b1 0 none) 2) h43 fun b46 =>
(ldB (Addr.add (Addr.add (Addr.mk b1 0 none) 2) 1) h43 fun b47 =>
(ldB (Addr.add (Addr.add (Addr.mk b1 0 none) 2) 2) h43 fun b48 =>
(f_walk_Walk pt5 n44 n45 b46 b47 b48 (fun n49 b50 b51 b52 b53 b54 b55 n56 n57 n58 h59 =>
(newB h59 (.cells #[(.int .i64 (0 : Int)), (.bool false), (.bool false), (.bool false), (.bool false), (.bool false), (.bool false)] 40) fun b60 h61 =>
(newB h61 (.cells #[(.int .u64 (0 : Int)), (.int .i64 (0 : Int))] 42) fun b62 h63 =>
(stC (Addr.mk b60 0 none) (.int .i64 n49) h63 fun h64 =>
(stC (Addr.add (Addr.mk b60 0 none) 1) (.bool b50) h64 fun h65 =>
(stC (Addr.add (Addr.mk b60 0 none) 2) (.bool b51) h65 fun h66 =>
(stC (Addr.add (Addr.mk b60 0 none) 3) (.bool b52) h66 fun h67 =>
(stC (Addr.add (Addr.mk b60 0 none) 4) (.bool b53) h67 fun h68 =>
(stC (Addr.add (Addr.mk b60 0 none) 5) (.bool b54) h68 fun h69 =>
(stC (Addr.add (Addr.mk b60 0 none) 6) (.bool b55) h69 fun h70 =>
(stC (Addr.mk b62 0 none) (.int .u64 n56) h70 fun h71 =>
(stC (Addr.add (Addr.mk b62 0 none) 1) (.int .i64 n57) h71 fun h72 =>
(bsel (n29 != n58)
(Q false h72)
(ldI .i64 (Addr.mk b31 0 none) h72 fun n73 =>
(ldB (Addr.add (Addr.mk b31 0 none) 1) h72 fun b74 =>
(ldB (Addr.add (Addr.mk b31 0 none) 2) h72 fun b75 =>
(ldB (Addr.add (Addr.mk b31 0 none) 3) h72 fun b76 =>
(ldB (Addr.add (Addr.mk b31 0 none) 4) h72 fun b77 =>
(ldB (Addr.add (Addr.mk b31 0 none) 5) h72 fun b78 =>
(ldB (Addr.add (Addr.mk b31 0 none) 6) h72 fun b79 =>
(ldI .i64 (Addr.mk b60 0 none) h72 fun n80 =>
(ldB (Addr.add (Addr.mk b60 0 none) 1) h72 fun b81 =>
(ldB (Addr.add (Addr.mk b60 0 none) 2) h72 fun b82 =>
(ldB (Addr.add (Addr.mk b60 0 none) 3) h72 fun b83 =>
(ldB (Addr.add (Addr.mk b60 0 none) 4) h72 fun b84 =>
(ldB (Addr.add (Addr.mk b60 0 none) 5) h72 fun b85 =>
(ldB (Addr.add (Addr.mk b60 0 none) 6) h72 fun b86 =>
(bsel (!((n73 == n80) && (((b74 == b81) && ((b75 == b82) && ((b76 == b83) && true))) && ((b77 == b84) && ((b78 == b85) && ((b79 == b86) && true))))))
(Q false h72)
(∃ R87 : Option Addr → Hp → Prop, (∀ pt142 : Option Addr, ∀ h143, R87 pt142 h143 → 
(ldI .i64 (Addr.mk b1 0 none) h143 fun n144 =>
(ldI .u64 (Addr.add (Addr.mk b1 0 none) 1) h143 fun n145 =>
(onSome pt142 fun a146 =>
(ldB a146 h143 fun b147 =>
(ldB (Addr.add a146 1) h143 fun b148 =>
(ldB (Addr.add a146 2) h143 fun b149 =>
(f_walk_Walk pt5 n144 n145 b147 b148 b149 (fun n150 b151 b152 b153 b154 b155 b156 n157 n158 n159 h160 =>
(newB h160 (.cells #[(.int .i64 (0 : Int)), (.bool false), (.bool false), (.bool false), (.bool false), (.bool false), (.bool false)] 40) fun b161 h162 =>
(newB h162 (.cells #[(.int .u64 (0 : Int)), (.int .i64 (0 : Int))] 42) fun b163 h164 =>
(stC (Addr.mk b161 0 none) (.int .i64 n150) h164 fun h165 =>
(stC (Addr.add (Addr.mk b161 0 none) 1) (.bool b151) h165 fun h166 =>
(stC (Addr.add (Addr.mk b161 0 none) 2) (.bool b152) h166 fun h167 =>
(stC (Addr.add (Addr.mk b161 0 none) 3) (.bool b153) h167 fun h168 =>
(stC (Addr.add (Addr.mk b161 0 none) 4) (.bool b154) h168 fun h169 =>
(stC (Addr.add (Addr.mk b161 0 none) 5) (.bool b155) h169 fun h170 =>
(stC (Addr.add (Addr.mk b161 0 none) 6) (.bool b156) h170 fun h171 =>
(stC (Addr.mk b163 0 none) (.int .u64 n157) h171 fun h172 =>
(stC (Addr.add (Addr.mk b163 0 none) 1) (.int .i64 n158) h172 fun h173 =>
(bsel (n29 != (0 : Int))
(f_demesnelaw04_awake  (fun b174 h175 =>
(bsel b174
(bsel (n159 == n29)
(ldI .i64 (Addr.mk b31 0 none) h175 fun n176 =>
(ldB (Addr.add (Addr.mk b31 0 none) 1) h175 fun b177 =>
(ldB (Addr.add (Addr.mk b31 0 none) 2) h175 fun b178 =>
(ldB (Addr.add (Addr.mk b31 0 none) 3) h175 fun b179 =>
(ldB (Addr.add (Addr.mk b31 0 none) 4) h175 fun b180 =>
(ldB (Addr.add (Addr.mk b31 0 none) 5) h175 fun b181 =>
(ldB (Addr.add (Addr.mk b31 0 none) 6) h175 fun b182 =>
(Q ((n176 == (0 : Int)) && (((b177 == false) && ((b178 == false) && ((b179 == false) && true))) && ((b180 == false) && ((b181 == false) && ((b182 == false) && true))))) h175))))))))
(Q false h175))
(Q false h175))) h173)
(bsel (n159 != (0 : Int))
(f_demesnelaw04_awake  (fun b183 h184 =>
(bsel b183
(bsel (n159 == (9 : Int))
(ldB (Addr.add (Addr.mk b31 0 none) 1) h184 fun b185 =>
(ldB (Addr.add (Addr.add (Addr.mk b31 0 none) 1) 1) h184 fun b186 =>
(ldB (Addr.add (Addr.add (Addr.mk b31 0 none) 1) 2) h184 fun b187 =>
(onSome pt142 fun a188 =>
(ldB a188 h184 fun b189 =>
(ldB (Addr.add a188 1) h184 fun b190 =>
(ldB (Addr.add a188 2) h184 fun b191 =>
(f_walk_May b185 b186 b187 b189 b190 b191 (fun b192 h193 =>
(Q (!b192) h193)) h184))))))))
(Q false h184))
(Q false h184))) h173)
(f_demesnelaw04_awake  (fun b194 h195 =>
(bsel b194
(ldI .i64 (Addr.mk b161 0 none) h195 fun n196 =>
(ldI .i64 (Addr.mk b31 0 none) h195 fun n197 =>
(bsel (n196 == n197)
(ldB (Addr.add (Addr.mk b161 0 none) 1) h195 fun b198 =>
(ldB (Addr.add (Addr.add (Addr.mk b161 0 none) 1) 1) h195 fun b199 =>
(ldB (Addr.add (Addr.add (Addr.mk b161 0 none) 1) 2) h195 fun b200 =>
(ldB (Addr.add (Addr.mk b31 0 none) 1) h195 fun b201 =>
(ldB (Addr.add (Addr.add (Addr.mk b31 0 none) 1) 1) h195 fun b202 =>
(ldB (Addr.add (Addr.add (Addr.mk b31 0 none) 1) 2) h195 fun b203 =>
(bsel ((b198 == b201) && ((b199 == b202) && ((b200 == b203) && true)))
(ldB (Addr.add (Addr.mk b161 0 none) 5) h195 fun b204 =>
(ldB (Addr.add (Addr.mk b31 0 none) 5) h195 fun b205 =>
(bsel (b204 == b205)
(ldB (Addr.add (Addr.mk b31 0 none) 1) h195 fun b206 =>
(ldB (Addr.add (Addr.add (Addr.mk b31 0 none) 1) 1) h195 fun b207 =>
(ldB (Addr.add (Addr.add (Addr.mk b31 0 none) 1) 2) h195 fun b208 =>
(ldB (Addr.add (Addr.mk b1 0 none) 2) h195 fun b209 =>
(ldB (Addr.add (Addr.add (Addr.mk b1 0 none) 2) 1) h195 fun b210 =>
(ldB (Addr.add (Addr.add (Addr.mk b1 0 none) 2) 2) h195 fun b211 =>
(f_walk_May b206 b207 b208 b209 b210 b211 (fun b212 h213 =>
(Q b212 h213)) h195)))))))
(Q false h195))))
(Q false h195))))))))
(Q false h195))))
(Q false h195))) h173))))))))))))))) h143)))))))) ∧
(ldB (Addr.add (Addr.mk b1 0 none) 2) h72 fun b88 =>
(bsel b88
(ldB (Addr.add (Addr.add (Addr.mk b1 0 none) 2) 1) h72 fun b89 =>
(bsel b89
(ldB (Addr.add (Addr.add (Addr.mk b1 0 none) 2) 2) h72 fun b90 =>
(bsel b90
(newB h72 (.cells #[(.bool false), (.bool false), (.bool false)] 34) fun b91 h92 =>
(stC (Addr.mk b91 0 none) (.bool true) h92 fun h93 =>
(stC (Addr.add (Addr.mk b91 0 none) 1) (.bool true) h93 fun h94 =>
(stC (Addr.add (Addr.mk b91 0 none) 2) (.bool true) h94 fun h95 =>
(R87 (some (Addr.mk b91 0 none)) h95)))))
(ldB (Addr.add (Addr.mk b3 0 none) 2) h72 fun b96 =>
(newB h72 (.cells #[(.bool false), (.bool false), (.bool false)] 34) fun b97 h98 =>
(stC (Addr.mk b97 0 none) (.bool true) h98 fun h99 =>
(stC (Addr.add (Addr.mk b97 0 none) 1) (.bool true) h99 fun h100 =>
(stC (Addr.add (Addr.mk b97 0 none) 2) (.bool b96) h100 fun h101 =>
(R87 (some (Addr.mk b97 0 none)) h101))))))))
(ldB (Addr.add (Addr.mk b3 0 none) 1) h72 fun b102 =>
(ldB (Addr.add (Addr.add (Addr.mk b1 0 none) 2) 2) h72 fun b103 =>
(bsel b103
(newB h72 (.cells #[(.bool false), (.bool false), (.bool false)] 34) fun b104 h105 =>
(stC (Addr.mk b104 0 none) (.bool true) h105 fun h106 =>
(stC (Addr.add (Addr.mk b104 0 none) 1) (.bool b102) h106 fun h107 =>
(stC (Addr.add (Addr.mk b104 0 none) 2) (.bool true) h107 fun h108 =>
(R87 (some (Addr.mk b104 0 none)) h108)))))
(ldB (Addr.add (Addr.mk b3 0 none) 2) h72 fun b109 =>
(newB h72 (.cells #[(.bool false), (.bool false), (.bool false)] 34) fun b110 h111 =>
(stC (Addr.mk b110 0 none) (.bool true) h111 fun h112 =>
(stC (Addr.add (Addr.mk b110 0 none) 1) (.bool b102) h112 fun h113 =>
(stC (Addr.add (Addr.mk b110 0 none) 2) (.bool b109) h113 fun h114 =>
(R87 (some (Addr.mk b110 0 none)) h114)))))))))))
(ldB (Addr.mk b3 0 none) h72 fun b115 =>
(ldB (Addr.add (Addr.add (Addr.mk b1 0 none) 2) 1) h72 fun b116 =>
(bsel b116
(ldB (Addr.add (Addr.add (Addr.mk b1 0 none) 2) 2) h72 fun b117 =>
(bsel b117
(newB h72 (.cells #[(.bool false), (.bool false), (.bool false)] 34) fun b118 h119 =>
(stC (Addr.mk b118 0 none) (.bool b115) h119 fun h120 =>
(stC (Addr.add (Addr.mk b118 0 none) 1) (.bool true) h120 fun h121 =>
(stC (Addr.add (Addr.mk b118 0 none) 2) (.bool true) h121 fun h122 =>
(R87 (some (Addr.mk b118 0 none)) h122)))))
(ldB (Addr.add (Addr.mk b3 0 none) 2) h72 fun b123 =>
(newB h72 (.cells #[(.bool false), (.bool false), (.bool false)] 34) fun b124 h125 =>
(stC (Addr.mk b124 0 none) (.bool b115) h125 fun h126 =>
(stC (Addr.add (Addr.mk b124 0 none) 1) (.bool true) h126 fun h127 =>
(stC (Addr.add (Addr.mk b124 0 none) 2) (.bool b123) h127 fun h128 =>
(R87 (some (Addr.mk b124 0 none)) h128))))))))
(ldB (Addr.add (Addr.mk b3 0 none) 1) h72 fun b129 =>
(ldB (Addr.add (Addr.add (Addr.mk b1 0 none) 2) 2) h72 fun b130 =>
(bsel b130
(newB h72 (.cells #[(.bool false), (.bool false), (.bool false)] 34) fun b131 h132 =>
(stC (Addr.mk b131 0 none) (.bool b115) h132 fun h133 =>
(stC (Addr.add (Addr.mk b131 0 none) 1) (.bool b129) h133 fun h134 =>
(stC (Addr.add (Addr.mk b131 0 none) 2) (.bool true) h134 fun h135 =>
(R87 (some (Addr.mk b131 0 none)) h135)))))
(ldB (Addr.add (Addr.mk b3 0 none) 2) h72 fun b136 =>
(newB h72 (.cells #[(.bool false), (.bool false), (.bool false)] 34) fun b137 h138 =>
(stC (Addr.mk b137 0 none) (.bool b115) h138 fun h139 =>
(stC (Addr.add (Addr.mk b137 0 none) 1) (.bool b129) h139 fun h140 =>
(stC (Addr.add (Addr.mk b137 0 none) 2) (.bool b136) h140 fun h141 =>
(R87 (some (Addr.mk b137 0 none)) h141))))))))))))))))))))))))))))))))))))))))))) h43)))))))))))))))))) h14)))))))))))) h4)))
def demesnelaw04_WalkAgain : demesnelaw04_WalkAgain_T := demesnelaw04_WalkAgain_G demesnelaw04_Lay demesnelaw04_awake walk_Walk walk_May

/- demesne/demesnelaw04.WalkMarks -/
abbrev demesnelaw04_WalkMarks_T := Sl → Int → Int → Bool → Bool → Bool → (Bool → Hp → Prop) → Hp → Prop
def demesnelaw04_WalkMarks_G (f_demesnelaw04_Lay : demesnelaw04_Lay_T) (f_demesnelaw04_awake : demesnelaw04_awake_T) (f_walk_Walk : walk_Walk_T) (f_demesnelaw04_Same : demesnelaw04_Same_T) (f_ram_RAM_Load : ram_RAM_Load_T) (p0 : Sl) (p1 : Int) (p2 : Int) (p3 : Bool) (p4 : Bool) (p5 : Bool) (Q : Bool → Hp → Prop) (h : Hp) : Prop :=
(newB h (.cells #[(.int .i64 p1), (.int .u64 p2), (.bool p3), (.bool p4), (.bool p5)] 36) fun b1 h2 =>
(f_demesnelaw04_Lay p0 (fun pt3 n4 s5 mp6 h7 =>
(newB h7 (.cells #[(.int .i64 (0 : Int)), (.slice none 0 0), (.map none)] 28) fun b8 h9 =>
(stC (Addr.mk b8 0 none) (.int .i64 n4) h9 fun h10 =>
(stC (Addr.add (Addr.mk b8 0 none) 1) (.slice s5.a s5.len s5.cap) h10 fun h11 =>
(stC (Addr.add (Addr.mk b8 0 none) 2) (.map mp6) h11 fun h12 =>
(bsel pt3.isNone
(Q false h12)
(ldI .i64 (Addr.mk b1 0 none) h12 fun n13 =>
(ldI .u64 (Addr.add (Addr.mk b1 0 none) 1) h12 fun n14 =>
(ldB (Addr.add (Addr.mk b1 0 none) 2) h12 fun b15 =>
(ldB (Addr.add (Addr.add (Addr.mk b1 0 none) 2) 1) h12 fun b16 =>
(ldB (Addr.add (Addr.add (Addr.mk b1 0 none) 2) 2) h12 fun b17 =>
(f_walk_Walk pt3 n13 n14 b15 b16 b17 (fun n18 b19 b20 b21 b22 b23 b24 n25 n26 n27 h28 =>
(newB h28 (.cells #[(.int .i64 (0 : Int)), (.bool false), (.bool false), (.bool false), (.bool false), (.bool false), (.bool false)] 40) fun b29 h30 =>
(newB h30 (.cells #[(.int .u64 (0 : Int)), (.int .i64 (0 : Int))] 42) fun b31 h32 =>
(stC (Addr.mk b29 0 none) (.int .i64 n18) h32 fun h33 =>
(stC (Addr.add (Addr.mk b29 0 none) 1) (.bool b19) h33 fun h34 =>
(stC (Addr.add (Addr.mk b29 0 none) 2) (.bool b20) h34 fun h35 =>
(stC (Addr.add (Addr.mk b29 0 none) 3) (.bool b21) h35 fun h36 =>
(stC (Addr.add (Addr.mk b29 0 none) 4) (.bool b22) h36 fun h37 =>
(stC (Addr.add (Addr.mk b29 0 none) 5) (.bool b23) h37 fun h38 =>
(stC (Addr.add (Addr.mk b29 0 none) 6) (.bool b24) h38 fun h39 =>
(stC (Addr.mk b31 0 none) (.int .u64 n25) h39 fun h40 =>
(stC (Addr.add (Addr.mk b31 0 none) 1) (.int .i64 n26) h40 fun h41 =>
(bsel (n27 != (0 : Int))
(f_demesnelaw04_awake  (fun b42 h43 =>
(bsel b42
(ldI .i64 (Addr.mk b8 0 none) h43 fun n44 =>
(ldS (Addr.add (Addr.mk b8 0 none) 1) h43 fun s45 =>
(ldM (Addr.add (Addr.mk b8 0 none) 2) h43 fun mp46 =>
(f_demesnelaw04_Same pt3 n44 s45 mp46 p0 (fun n47 h48 =>
(Q (n47 == (0 : Int)) h48)) h43))))
(Q false h43))) h41)
(ldI .i64 (Addr.mk b1 0 none) h41 fun n49 =>
(ldI .u64 (Addr.add (Addr.mk b1 0 none) 1) h41 fun n50 =>
(f_walk_Walk pt3 n49 n50 false false false (fun n51 b52 b53 b54 b55 b56 b57 n58 n59 n60 h61 =>
(newB h61 (.cells #[(.int .i64 (0 : Int)), (.bool false), (.bool false), (.bool false), (.bool false), (.bool false), (.bool false)] 40) fun b62 h63 =>
(newB h63 (.cells #[(.int .u64 (0 : Int)), (.int .i64 (0 : Int))] 42) fun b64 h65 =>
(stC (Addr.mk b62 0 none) (.int .i64 n51) h65 fun h66 =>
(stC (Addr.add (Addr.mk b62 0 none) 1) (.bool b52) h66 fun h67 =>
(stC (Addr.add (Addr.mk b62 0 none) 2) (.bool b53) h67 fun h68 =>
(stC (Addr.add (Addr.mk b62 0 none) 3) (.bool b54) h68 fun h69 =>
(stC (Addr.add (Addr.mk b62 0 none) 4) (.bool b55) h69 fun h70 =>
(stC (Addr.add (Addr.mk b62 0 none) 5) (.bool b56) h70 fun h71 =>
(stC (Addr.add (Addr.mk b62 0 none) 6) (.bool b57) h71 fun h72 =>
(stC (Addr.mk b64 0 none) (.int .u64 n58) h72 fun h73 =>
(stC (Addr.add (Addr.mk b64 0 none) 1) (.int .i64 n59) h73 fun h74 =>
(bsel (n60 != (0 : Int))
(Q false h74)
(ldB (Addr.add (Addr.mk b1 0 none) 2) h74 fun b75 =>
(bsel b75
(ldB (Addr.add (Addr.mk b62 0 none) 6) h74 fun b76 =>
(bsel (!b76)
(Q false h74)
(ldI .i64 (Addr.mk b1 0 none) h74 fun n77 =>
(ldI .u64 (Addr.add (Addr.mk b1 0 none) 1) h74 fun n78 =>
(f_ram_RAM_Load pt3 (IntKind.wrap .u64 ((IntKind.wrap .u64 ((IntKind.wrap .u64 n77) * (4096 : Int))) + (IntKind.wrap .u64 ((Int.tmod (Int.fdiv n78 (2 ^ (39 : Nat))) (512 : Int)) * (8 : Int))))) (8 : Int) (fun n79 n80 h81 =>
(f_demesnelaw04_awake  (fun b82 h83 =>
(bsel b82
(bsel (n80 == (0 : Int))
(Q ((bits .and .u64 n79 (33 : Int)) == (33 : Int)) h83)
(Q false h83))
(Q false h83))) h81)) h74)))))
(ldI .i64 (Addr.mk b1 0 none) h74 fun n84 =>
(ldI .u64 (Addr.add (Addr.mk b1 0 none) 1) h74 fun n85 =>
(f_ram_RAM_Load pt3 (IntKind.wrap .u64 ((IntKind.wrap .u64 ((IntKind.wrap .u64 n84) * (4096 : Int))) + (IntKind.wrap .u64 ((Int.tmod (Int.fdiv n85 (2 ^ (39 : Nat))) (512 : Int)) * (8 : Int))))) (8 : Int) (fun n86 n87 h88 =>
(f_demesnelaw04_awake  (fun b89 h90 =>
(bsel b89
(bsel (n87 == (0 : Int))
(Q ((bits .and .u64 n86 (33 : Int)) == (33 : Int)) h90)
(Q false h90))
(Q false h90))) h88)) h74)))))))))))))))))) h41)))))))))))))))) h12)))))))))))) h2))
def demesnelaw04_WalkMarks : demesnelaw04_WalkMarks_T := demesnelaw04_WalkMarks_G demesnelaw04_Lay demesnelaw04_awake walk_Walk demesnelaw04_Same ram_RAM_Load

/- demesne/demesnelaw04.WalkNarrow -/
abbrev demesnelaw04_WalkNarrow_T := Int → Int → Bool → Bool → Bool → (Bool → Hp → Prop) → Hp → Prop
def demesnelaw04_WalkNarrow_G (f_demesnelaw04_Lay : demesnelaw04_Lay_T) (f_demesnelaw04_awake : demesnelaw04_awake_T) (f_walk_Walk : walk_Walk_T) (p0 : Int) (p1 : Int) (p2 : Bool) (p3 : Bool) (p4 : Bool) (Q : Bool → Hp → Prop) (h : Hp) : Prop :=
(newB h (.cells #[(.bool p2), (.bool p3), (.bool p4)] 34) fun b1 h2 =>
(bsel (decide (p0 < (0 : Int)))
(f_demesnelaw04_awake  (fun b3 h4 =>
(Q b3 h4)) h2)
(bsel (decide (p0 > (3 : Int)))
(f_demesnelaw04_awake  (fun b5 h6 =>
(Q b5 h6)) h2)
(newB h2 (.cells #[(.int .i64 (0 : Int)), (.int .i64 (0 : Int)), (.int .u64 (4103 : Int)), (.int .i64 (1 : Int)), (.int .i64 (0 : Int)), (.int .u64 (8199 : Int)), (.int .i64 (2 : Int)), (.int .i64 (0 : Int)), (.int .u64 (12295 : Int)), (.int .i64 (3 : Int)), (.int .i64 (0 : Int)), (.int .u64 (16391 : Int))] 60) fun b7 h8 =>
(∃ R9 : Int → Hp → Prop, (∀ x21 : Int, ∀ h22, R9 x21 h22 → 
(f_demesnelaw04_Lay (Sl.mk (some (Addr.mk b7 0 none)) 4 4) (fun pt23 n24 s25 mp26 h27 =>
(newB h27 (.cells #[(.int .i64 (0 : Int)), (.slice none 0 0), (.map none)] 28) fun b28 h29 =>
(stC (Addr.mk b28 0 none) (.int .i64 n24) h29 fun h30 =>
(stC (Addr.add (Addr.mk b28 0 none) 1) (.slice s25.a s25.len s25.cap) h30 fun h31 =>
(stC (Addr.add (Addr.mk b28 0 none) 2) (.map mp26) h31 fun h32 =>
(bsel pt23.isNone
(Q false h32)
(ldB (Addr.mk b1 0 none) h32 fun b33 =>
(ldB (Addr.add (Addr.mk b1 0 none) 1) h32 fun b34 =>
(ldB (Addr.add (Addr.mk b1 0 none) 2) h32 fun b35 =>
(f_walk_Walk pt23 (0 : Int) (123 : Int) b33 b34 b35 (fun n36 b37 b38 b39 b40 b41 b42 n43 n44 n45 h46 =>
(newB h46 (.cells #[(.int .i64 (0 : Int)), (.bool false), (.bool false), (.bool false), (.bool false), (.bool false), (.bool false)] 40) fun b47 h48 =>
(newB h48 (.cells #[(.int .u64 (0 : Int)), (.int .i64 (0 : Int))] 42) fun b49 h50 =>
(stC (Addr.mk b47 0 none) (.int .i64 n36) h50 fun h51 =>
(stC (Addr.add (Addr.mk b47 0 none) 1) (.bool b37) h51 fun h52 =>
(stC (Addr.add (Addr.mk b47 0 none) 2) (.bool b38) h52 fun h53 =>
(stC (Addr.add (Addr.mk b47 0 none) 3) (.bool b39) h53 fun h54 =>
(stC (Addr.add (Addr.mk b47 0 none) 4) (.bool b40) h54 fun h55 =>
(stC (Addr.add (Addr.mk b47 0 none) 5) (.bool b41) h55 fun h56 =>
(stC (Addr.add (Addr.mk b47 0 none) 6) (.bool b42) h56 fun h57 =>
(stC (Addr.mk b49 0 none) (.int .u64 n43) h57 fun h58 =>
(stC (Addr.add (Addr.mk b49 0 none) 1) (.int .i64 n44) h58 fun h59 =>
(bsel (n45 != x21)
(Q false h59)
(bsel (n45 != (0 : Int))
(ldI .u64 (Addr.mk b49 0 none) h59 fun n60 =>
(bsel (n60 != (123 : Int))
(Q false h59)
(ldI .i64 (Addr.add (Addr.mk b49 0 none) 1) h59 fun n61 =>
(bsel (!(((bits .and .i64 n61 (1 : Int)) == (0 : Int)) == (p1 == (4 : Int))))
(Q false h59)
(f_demesnelaw04_awake  (fun b62 h63 =>
(bsel b62
(bsel (n45 != (0 : Int))
(Q true h63)
(ldI .i64 (Addr.mk b47 0 none) h63 fun n64 =>
(Q (n64 == (4 : Int)) h63)))
(Q false h63))) h59)))))
(f_demesnelaw04_awake  (fun b65 h66 =>
(bsel b65
(bsel (n45 != (0 : Int))
(Q true h66)
(ldI .i64 (Addr.mk b47 0 none) h66 fun n67 =>
(Q (n67 == (4 : Int)) h66)))
(Q false h66))) h59))))))))))))))) h32)))))))))) h22)) ∧
(bsel (p1 == (1 : Int))
(inB p0 4
(ldI .u64 (Addr.add (Addr.add (Addr.mk b7 0 none) (Int.toNat p0 * 3)) 2) h8 fun n10 =>
(inB p0 4
(stC (Addr.add (Addr.add (Addr.mk b7 0 none) (Int.toNat p0 * 3)) 2) (.int .u64 (bits .andNot .u64 n10 (2 : Int))) h8 fun h11 =>
(ldB (Addr.mk b1 0 none) h11 fun b12 =>
(bsel b12
(R9 (9 : Int) h11)
(R9 (0 : Int) h11)))))))
(bsel (p1 == (2 : Int))
(inB p0 4
(ldI .u64 (Addr.add (Addr.add (Addr.mk b7 0 none) (Int.toNat p0 * 3)) 2) h8 fun n13 =>
(inB p0 4
(stC (Addr.add (Addr.add (Addr.mk b7 0 none) (Int.toNat p0 * 3)) 2) (.int .u64 (bits .andNot .u64 n13 (4 : Int))) h8 fun h14 =>
(ldB (Addr.add (Addr.mk b1 0 none) 1) h14 fun b15 =>
(bsel b15
(R9 (9 : Int) h14)
(R9 (0 : Int) h14)))))))
(bsel (p1 == (3 : Int))
(inB p0 4
(ldI .u64 (Addr.add (Addr.add (Addr.mk b7 0 none) (Int.toNat p0 * 3)) 2) h8 fun n16 =>
(inB p0 4
(stC (Addr.add (Addr.add (Addr.mk b7 0 none) (Int.toNat p0 * 3)) 2) (.int .u64 (bits .or .u64 n16 (9223372036854775808 : Int))) h8 fun h17 =>
(ldB (Addr.add (Addr.mk b1 0 none) 2) h17 fun b18 =>
(bsel b18
(R9 (9 : Int) h17)
(R9 (0 : Int) h17)))))))
(bsel (p1 == (4 : Int))
(inB p0 4
(ldI .u64 (Addr.add (Addr.add (Addr.mk b7 0 none) (Int.toNat p0 * 3)) 2) h8 fun n19 =>
(inB p0 4
(stC (Addr.add (Addr.add (Addr.mk b7 0 none) (Int.toNat p0 * 3)) 2) (.int .u64 (bits .andNot .u64 n19 (1 : Int))) h8 fun h20 =>
(R9 (9 : Int) h20)))))
(R9 (0 : Int) h8))))))))))
def demesnelaw04_WalkNarrow : demesnelaw04_WalkNarrow_T := demesnelaw04_WalkNarrow_G demesnelaw04_Lay demesnelaw04_awake walk_Walk

/- demesne/demesnelaw04.WalkPages -/
abbrev demesnelaw04_WalkPages_T := Sl → Int → Int → Bool → Bool → Bool → Int → (Bool → Hp → Prop) → Hp → Prop
def demesnelaw04_WalkPages_G (f_demesnelaw04_Lay : demesnelaw04_Lay_T) (f_demesnelaw04_awake : demesnelaw04_awake_T) (f_walk_Walk : walk_Walk_T) (p0 : Sl) (p1 : Int) (p2 : Int) (p3 : Bool) (p4 : Bool) (p5 : Bool) (p6 : Int) (Q : Bool → Hp → Prop) (h : Hp) : Prop :=
(newB h (.cells #[(.int .i64 p1), (.int .u64 p2), (.bool p3), (.bool p4), (.bool p5)] 36) fun b1 h2 =>
(f_demesnelaw04_Lay p0 (fun pt3 n4 s5 mp6 h7 =>
(newB h7 (.cells #[(.int .i64 (0 : Int)), (.slice none 0 0), (.map none)] 28) fun b8 h9 =>
(stC (Addr.mk b8 0 none) (.int .i64 n4) h9 fun h10 =>
(stC (Addr.add (Addr.mk b8 0 none) 1) (.slice s5.a s5.len s5.cap) h10 fun h11 =>
(stC (Addr.add (Addr.mk b8 0 none) 2) (.map mp6) h11 fun h12 =>
(bsel pt3.isNone
(bsel (!pt3.isNone)
(f_demesnelaw04_awake  (fun b13 h14 =>
(Q b13 h14)) h12)
(Q false h12))
(bsel (decide (p6 < (0 : Int)))
(bsel (!pt3.isNone)
(f_demesnelaw04_awake  (fun b15 h16 =>
(Q b15 h16)) h12)
(Q false h12))
(bsel (decide (p6 > (4095 : Int)))
(bsel (!pt3.isNone)
(f_demesnelaw04_awake  (fun b17 h18 =>
(Q b17 h18)) h12)
(Q false h12))
(ldI .i64 (Addr.mk b1 0 none) h12 fun n19 =>
(ldI .u64 (Addr.add (Addr.mk b1 0 none) 1) h12 fun n20 =>
(ldB (Addr.add (Addr.mk b1 0 none) 2) h12 fun b21 =>
(ldB (Addr.add (Addr.add (Addr.mk b1 0 none) 2) 1) h12 fun b22 =>
(ldB (Addr.add (Addr.add (Addr.mk b1 0 none) 2) 2) h12 fun b23 =>
(f_walk_Walk pt3 n19 n20 b21 b22 b23 (fun n24 b25 b26 b27 b28 b29 b30 n31 n32 n33 h34 =>
(newB h34 (.cells #[(.int .i64 (0 : Int)), (.bool false), (.bool false), (.bool false), (.bool false), (.bool false), (.bool false)] 40) fun b35 h36 =>
(newB h36 (.cells #[(.int .u64 (0 : Int)), (.int .i64 (0 : Int))] 42) fun b37 h38 =>
(stC (Addr.mk b35 0 none) (.int .i64 n24) h38 fun h39 =>
(stC (Addr.add (Addr.mk b35 0 none) 1) (.bool b25) h39 fun h40 =>
(stC (Addr.add (Addr.mk b35 0 none) 2) (.bool b26) h40 fun h41 =>
(stC (Addr.add (Addr.mk b35 0 none) 3) (.bool b27) h41 fun h42 =>
(stC (Addr.add (Addr.mk b35 0 none) 4) (.bool b28) h42 fun h43 =>
(stC (Addr.add (Addr.mk b35 0 none) 5) (.bool b29) h43 fun h44 =>
(stC (Addr.add (Addr.mk b35 0 none) 6) (.bool b30) h44 fun h45 =>
(stC (Addr.mk b37 0 none) (.int .u64 n31) h45 fun h46 =>
(stC (Addr.add (Addr.mk b37 0 none) 1) (.int .i64 n32) h46 fun h47 =>
(ldI .u64 (Addr.add (Addr.mk b1 0 none) 1) h47 fun n48 =>
(ldI .u64 (Addr.add (Addr.mk b1 0 none) 1) h47 fun n49 =>
(ldI .i64 (Addr.mk b1 0 none) h47 fun n50 =>
(ldB (Addr.add (Addr.mk b1 0 none) 2) h47 fun b51 =>
(ldB (Addr.add (Addr.add (Addr.mk b1 0 none) 2) 1) h47 fun b52 =>
(ldB (Addr.add (Addr.add (Addr.mk b1 0 none) 2) 2) h47 fun b53 =>
(f_walk_Walk pt3 n50 (IntKind.wrap .u64 ((IntKind.wrap .u64 (n48 - (Int.tmod n49 (4096 : Int)))) + (IntKind.wrap .u64 p6))) b51 b52 b53 (fun n54 b55 b56 b57 b58 b59 b60 n61 n62 n63 h64 =>
(newB h64 (.cells #[(.int .i64 (0 : Int)), (.bool false), (.bool false), (.bool false), (.bool false), (.bool false), (.bool false)] 40) fun b65 h66 =>
(newB h66 (.cells #[(.int .u64 (0 : Int)), (.int .i64 (0 : Int))] 42) fun b67 h68 =>
(stC (Addr.mk b65 0 none) (.int .i64 n54) h68 fun h69 =>
(stC (Addr.add (Addr.mk b65 0 none) 1) (.bool b55) h69 fun h70 =>
(stC (Addr.add (Addr.mk b65 0 none) 2) (.bool b56) h70 fun h71 =>
(stC (Addr.add (Addr.mk b65 0 none) 3) (.bool b57) h71 fun h72 =>
(stC (Addr.add (Addr.mk b65 0 none) 4) (.bool b58) h72 fun h73 =>
(stC (Addr.add (Addr.mk b65 0 none) 5) (.bool b59) h73 fun h74 =>
(stC (Addr.add (Addr.mk b65 0 none) 6) (.bool b60) h74 fun h75 =>
(stC (Addr.mk b67 0 none) (.int .u64 n61) h75 fun h76 =>
(stC (Addr.add (Addr.mk b67 0 none) 1) (.int .i64 n62) h76 fun h77 =>
(bsel (n33 != n63)
(Q false h77)
(ldI .i64 (Addr.add (Addr.mk b37 0 none) 1) h77 fun n78 =>
(ldI .i64 (Addr.add (Addr.mk b67 0 none) 1) h77 fun n79 =>
(bsel (n78 != n79)
(Q false h77)
(bsel (n33 == (9 : Int))
(ldI .u64 (Addr.mk b37 0 none) h77 fun n80 =>
(ldI .u64 (Addr.add (Addr.mk b1 0 none) 1) h77 fun n81 =>
(bsel (n80 != n81)
(Q false h77)
(ldI .u64 (Addr.mk b67 0 none) h77 fun n82 =>
(bsel (n82 != (IntKind.wrap .u64 ((IntKind.wrap .u64 (n48 - (Int.tmod n49 (4096 : Int)))) + (IntKind.wrap .u64 p6))))
(Q false h77)
(f_demesnelaw04_awake  (fun b83 h84 =>
(bsel b83
(ldI .i64 (Addr.mk b35 0 none) h84 fun n85 =>
(ldB (Addr.add (Addr.mk b35 0 none) 1) h84 fun b86 =>
(ldB (Addr.add (Addr.mk b35 0 none) 2) h84 fun b87 =>
(ldB (Addr.add (Addr.mk b35 0 none) 3) h84 fun b88 =>
(ldB (Addr.add (Addr.mk b35 0 none) 4) h84 fun b89 =>
(ldB (Addr.add (Addr.mk b35 0 none) 5) h84 fun b90 =>
(ldB (Addr.add (Addr.mk b35 0 none) 6) h84 fun b91 =>
(ldI .i64 (Addr.mk b65 0 none) h84 fun n92 =>
(ldB (Addr.add (Addr.mk b65 0 none) 1) h84 fun b93 =>
(ldB (Addr.add (Addr.mk b65 0 none) 2) h84 fun b94 =>
(ldB (Addr.add (Addr.mk b65 0 none) 3) h84 fun b95 =>
(ldB (Addr.add (Addr.mk b65 0 none) 4) h84 fun b96 =>
(ldB (Addr.add (Addr.mk b65 0 none) 5) h84 fun b97 =>
(ldB (Addr.add (Addr.mk b65 0 none) 6) h84 fun b98 =>
(Q ((n85 == n92) && (((b86 == b93) && ((b87 == b94) && ((b88 == b95) && true))) && ((b89 == b96) && ((b90 == b97) && ((b91 == b98) && true))))) h84)))))))))))))))
(Q false h84))) h77))))))
(f_demesnelaw04_awake  (fun b99 h100 =>
(bsel b99
(ldI .i64 (Addr.mk b35 0 none) h100 fun n101 =>
(ldB (Addr.add (Addr.mk b35 0 none) 1) h100 fun b102 =>
(ldB (Addr.add (Addr.mk b35 0 none) 2) h100 fun b103 =>
(ldB (Addr.add (Addr.mk b35 0 none) 3) h100 fun b104 =>
(ldB (Addr.add (Addr.mk b35 0 none) 4) h100 fun b105 =>
(ldB (Addr.add (Addr.mk b35 0 none) 5) h100 fun b106 =>
(ldB (Addr.add (Addr.mk b35 0 none) 6) h100 fun b107 =>
(ldI .i64 (Addr.mk b65 0 none) h100 fun n108 =>
(ldB (Addr.add (Addr.mk b65 0 none) 1) h100 fun b109 =>
(ldB (Addr.add (Addr.mk b65 0 none) 2) h100 fun b110 =>
(ldB (Addr.add (Addr.mk b65 0 none) 3) h100 fun b111 =>
(ldB (Addr.add (Addr.mk b65 0 none) 4) h100 fun b112 =>
(ldB (Addr.add (Addr.mk b65 0 none) 5) h100 fun b113 =>
(ldB (Addr.add (Addr.mk b65 0 none) 6) h100 fun b114 =>
(Q ((n101 == n108) && (((b102 == b109) && ((b103 == b110) && ((b104 == b111) && true))) && ((b105 == b112) && ((b106 == b113) && ((b107 == b114) && true))))) h100)))))))))))))))
(Q false h100))) h77)))))))))))))))))) h47))))))))))))))))))) h12)))))))))))))) h2))
def demesnelaw04_WalkPages : demesnelaw04_WalkPages_T := demesnelaw04_WalkPages_G demesnelaw04_Lay demesnelaw04_awake walk_Walk

/- demesne/demesnelaw04.WalkLarge -/
abbrev demesnelaw04_WalkLarge_T := Int → Int → Int → Bool → Bool → Bool → (Bool → Hp → Prop) → Hp → Prop
def demesnelaw04_WalkLarge_G (f_demesnelaw04_Lay : demesnelaw04_Lay_T) (f_demesnelaw04_awake : demesnelaw04_awake_T) (f_walk_Walk : walk_Walk_T) (p0 : Int) (p1 : Int) (p2 : Int) (p3 : Bool) (p4 : Bool) (p5 : Bool) (Q : Bool → Hp → Prop) (h : Hp) : Prop :=
(newB h (.cells #[(.bool p3), (.bool p4), (.bool p5)] 34) fun b1 h2 =>
(bsel (decide (p0 < (0 : Int)))
(f_demesnelaw04_awake  (fun b3 h4 =>
(Q b3 h4)) h2)
(bsel (decide (p0 ≥ (2048 : Int)))
(f_demesnelaw04_awake  (fun b5 h6 =>
(Q b5 h6)) h2)
(bsel (decide (p1 < (0 : Int)))
(f_demesnelaw04_awake  (fun b7 h8 =>
(Q b7 h8)) h2)
(bsel (decide (p1 > (511 : Int)))
(f_demesnelaw04_awake  (fun b9 h10 =>
(Q b9 h10)) h2)
(bsel (decide (p2 < (0 : Int)))
(f_demesnelaw04_awake  (fun b11 h12 =>
(Q b11 h12)) h2)
(bsel (decide (p2 > (20 : Int)))
(f_demesnelaw04_awake  (fun b13 h14 =>
(Q b13 h14)) h2)
(∃ R15 : Int → Hp → Prop, (∀ x16 : Int, ∀ h17, R15 x16 h17 → 
(newB h17 (.cells #[(.int .i64 (0 : Int)), (.int .i64 (0 : Int)), (.int .u64 (4103 : Int)), (.int .i64 (1 : Int)), (.int .i64 (0 : Int)), (.int .u64 (8199 : Int)), (.int .i64 (2 : Int)), (.int .i64 (3 : Int)), (.int .u64 x16)] 60) fun b18 h19 =>
(f_demesnelaw04_Lay (Sl.mk (some (Addr.mk b18 0 none)) 3 3) (fun pt20 n21 s22 mp23 h24 =>
(newB h24 (.cells #[(.int .i64 (0 : Int)), (.slice none 0 0), (.map none)] 28) fun b25 h26 =>
(stC (Addr.mk b25 0 none) (.int .i64 n21) h26 fun h27 =>
(stC (Addr.add (Addr.mk b25 0 none) 1) (.slice s22.a s22.len s22.cap) h27 fun h28 =>
(stC (Addr.add (Addr.mk b25 0 none) 2) (.map mp23) h28 fun h29 =>
(bsel pt20.isNone
(Q false h29)
(ldB (Addr.mk b1 0 none) h29 fun b30 =>
(ldB (Addr.add (Addr.mk b1 0 none) 1) h29 fun b31 =>
(ldB (Addr.add (Addr.mk b1 0 none) 2) h29 fun b32 =>
(f_walk_Walk pt20 (0 : Int) (bits .or .u64 (bits .or .u64 (6291456 : Int) (IntKind.wrap .u64 ((IntKind.wrap .u64 p1) * 2 ^ (12 : Nat)))) (5 : Int)) b30 b31 b32 (fun n33 b34 b35 b36 b37 b38 b39 n40 n41 n42 h43 =>
(newB h43 (.cells #[(.int .i64 (0 : Int)), (.bool false), (.bool false), (.bool false), (.bool false), (.bool false), (.bool false)] 40) fun b44 h45 =>
(newB h45 (.cells #[(.int .u64 (0 : Int)), (.int .i64 (0 : Int))] 42) fun b46 h47 =>
(stC (Addr.mk b44 0 none) (.int .i64 n33) h47 fun h48 =>
(stC (Addr.add (Addr.mk b44 0 none) 1) (.bool b34) h48 fun h49 =>
(stC (Addr.add (Addr.mk b44 0 none) 2) (.bool b35) h49 fun h50 =>
(stC (Addr.add (Addr.mk b44 0 none) 3) (.bool b36) h50 fun h51 =>
(stC (Addr.add (Addr.mk b44 0 none) 4) (.bool b37) h51 fun h52 =>
(stC (Addr.add (Addr.mk b44 0 none) 5) (.bool b38) h52 fun h53 =>
(stC (Addr.add (Addr.mk b44 0 none) 6) (.bool b39) h53 fun h54 =>
(stC (Addr.mk b46 0 none) (.int .u64 n40) h54 fun h55 =>
(stC (Addr.add (Addr.mk b46 0 none) 1) (.int .i64 n41) h55 fun h56 =>
(bsel (decide (p2 ≥ (12 : Int)))
(f_demesnelaw04_awake  (fun b57 h58 =>
(bsel b57
(bsel (n42 == (9 : Int))
(ldI .i64 (Addr.add (Addr.mk b46 0 none) 1) h58 fun n59 =>
(Q ((bits .and .i64 n59 (9 : Int)) == (9 : Int)) h58))
(Q false h58))
(Q false h58))) h56)
(f_demesnelaw04_awake  (fun b60 h61 =>
(bsel b60
(bsel (n42 == (0 : Int))
(ldB (Addr.add (Addr.mk b44 0 none) 5) h61 fun b62 =>
(bsel b62
(ldI .i64 (Addr.mk b44 0 none) h61 fun n63 =>
(bsel (n63 == (IntKind.wrap .i64 ((IntKind.wrap .i64 (p0 * (512 : Int))) + p1)))
(ldB (Addr.add (Addr.mk b44 0 none) 6) h61 fun b64 =>
(ldB (Addr.mk b1 0 none) h61 fun b65 =>
(Q (b64 == b65) h61)))
(Q false h61)))
(Q false h61)))
(Q false h61))
(Q false h61))) h56)))))))))))))) h29)))))))))) h19))) ∧
(bsel (decide (p2 ≥ (12 : Int)))
(bsel (decide (p2 < 0)) False
(R15 (bits .or .u64 (bits .or .u64 (IntKind.wrap .u64 ((IntKind.wrap .u64 p0) * 2 ^ (21 : Nat))) (135 : Int)) (IntKind.wrap .u64 ((1 : Int) * 2 ^ (min (Int.toNat p2) 64)))) h2))
(R15 (bits .or .u64 (IntKind.wrap .u64 ((IntKind.wrap .u64 p0) * 2 ^ (21 : Nat))) (135 : Int)) h2))))))))))
def demesnelaw04_WalkLarge : demesnelaw04_WalkLarge_T := demesnelaw04_WalkLarge_G demesnelaw04_Lay demesnelaw04_awake walk_Walk

end Go.Dn
