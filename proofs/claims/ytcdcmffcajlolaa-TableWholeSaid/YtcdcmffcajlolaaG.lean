/- Printed by gen3.py: what each function does, as a predicate over a part of the heap. -/
import Derived.Test.YtcdcmffcajlolaaDnY
namespace Go.Dn

abbrev ty_abi_BoundsErrorCode : Nat := 6
abbrev ty_runtime_boundsError : Nat := 8
abbrev ty_runtime_errorString : Nat := 10
abbrev ty_runtime_plainError : Nat := 11
abbrev ty_runtime_errorAddressString : Nat := 14
abbrev ty_maps_unhashableTypeError : Nat := 19
abbrev ty_api_Errno : Nat := 24
abbrev ty_api_Range : Nat := 31
abbrev ty_table_Purse : Nat := 37
abbrev ty_api_Perm : Nat := 46
abbrev ty_demesnelaw09_Act : Nat := 52
abbrev ty_demesneref09_Leaf : Nat := 67
abbrev ty_api_Access : Nat := 77
abbrev ty_walk_Found : Nat := 79
abbrev ty_api_Fault : Nat := 81
abbrev ty_ram_RAM : Nat := 91
abbrev ty_buddy_Buddy : Nat := 96
abbrev ty_quota_Node : Nat := 99
abbrev ty_quota_Tree : Nat := 102
abbrev ty_pte_Entry : Nat := 107
abbrev ty_walk_stop : Nat := 131
abbrev ty_walk_walker : Nat := 135
abbrev ty_runtime_TypeAssertionError : Nat := 168
abbrev ty_runtime_PanicNilError : Nat := 171
abbrev ty_abi_TFlag : Nat := 173
abbrev ty_abi_Kind : Nat := 174
abbrev ty_abi_NameOff : Nat := 177
abbrev ty_abi_TypeOff : Nat := 178
abbrev ty_abi_Type : Nat := 180
abbrev ty_unsafe_Pointer : Nat := 181

/- demesne/ram.New -/
abbrev ram_New_T := Int → Sl → (Option Addr → Int → AH → Prop) → AP
def ram_New_A (p0 : Int) (p1 : Sl) (Q : Option Addr → Int → AH → Prop) (h : AH) : Prop :=
(bsel (decide (p0 < (1 : Int)))
(Q none (1 : Int) h)
(∃ R1 : AH → Prop, (∀ h2, R1 h2 → 
(∃ I3 : Int → Nat → AH → Prop, (∃ m4, I3 (0 : Int) m4 h2) ∧ ∀ x7 : Int, ∀ m4 h6, I3 x7 m4 h6 → 
(bsel (decide (x7 < (Int.ofNat p1.len)))
(onSome p1.a fun a8 =>
(inB x7 p1.len
(aI .i64 (Addr.add a8 (Int.toNat x7 * 2)) h6 fun n9 =>
(aI .i64 (Addr.add (Addr.add a8 (Int.toNat x7 * 2)) 1) h6 fun n10 =>
(bsel (decide (n9 < (0 : Int)))
(Q none (3 : Int) h6)
(bsel (decide (n10 < n9))
(Q none (3 : Int) h6)
(bsel (decide (n10 > p0))
(Q none (3 : Int) h6)
(∃ m5, m5 < m4 ∧ I3 (IntKind.wrap .i64 (x7 + (1 : Int))) m5 h6))))))))
(apA 2 16 #[(.int .i64 (0 : Int)), (.int .i64 (0 : Int))] 31 Sl.nil p1 h6 fun s11 h12 =>
(newA h12 (.map #[] 0) fun b13 h14 =>
(newA h14 (.cells #[(.int .i64 p0), (.slice s11.a s11.len s11.cap), (.map (some b13))] 91) fun b15 h16 =>
(Q (some (Addr.mk b15 0 none)) (0 : Int) h16))))))) ∧
(bsel (decide (p0 > (1048576 : Int)))
(Q none (4 : Int) h)
(bsel (decide ((Int.ofNat p1.len) > (64 : Int)))
(Q none (4 : Int) h)
(R1 h)))))
def ram_New_W (f : ram_New_T) : ArS [.c (.i .i64), .c .s] EnR := fun p0 p1 K _Kp => f p0 p1 (fun r0 r1 => K (.tuple #[(.pointer r0), (.int .i64 r1)]))

/- (*demesne/buddy.Buddy).add -/
abbrev buddy_Buddy_add_T := Option Addr → Int → Int → (AH → Prop) → AP
def buddy_Buddy_add_A (p0 : Option Addr) (p1 : Int) (p2 : Int) (Q : AH → Prop) (h : AH) : Prop :=
(∃ I1 : Int → Int → Nat → AH → Prop, (∃ m2, I1 p1 p2 m2 h) ∧ ∀ x5 : Int, ∀ x6 : Int, ∀ m2 h4, I1 x5 x6 m2 h4 → 
(bsel (decide (x6 < (10 : Int)))
(onSome p0 fun a7 =>
(inB x6 11
(aM (Addr.add a7 (Int.toNat x6 * 1)) h4 fun mp8 =>
(bsel (decide (x6 < 0)) False
(aLk h4 mp8 .i64 (bits .xor .i64 x5 (IntKind.wrap .i64 ((1 : Int) * 2 ^ (min (Int.toNat x6) 64)))) fun o9 =>
(∃ b10 : Bool, ((o9.getD (.bool false)) : Value) = (.bool b10) ∧
(bsel b10
(onSome p0 fun a11 =>
(inB x6 11
(aM (Addr.add a11 (Int.toNat x6 * 1)) h4 fun mp12 =>
(bsel (decide (x6 < 0)) False
(aMDl h4 mp12 .i64 (bits .xor .i64 x5 (IntKind.wrap .i64 ((1 : Int) * 2 ^ (min (Int.toNat x6) 64)))) fun h13 =>
(bsel (decide (x6 < 0)) False
(∃ m3, m3 < m2 ∧ I1 (bits .andNot .i64 x5 (IntKind.wrap .i64 ((1 : Int) * 2 ^ (min (Int.toNat x6) 64)))) (IntKind.wrap .i64 (x6 + (1 : Int))) m3 h13)))))))
(onSome p0 fun a14 =>
(inB x6 11
(aM (Addr.add a14 (Int.toNat x6 * 1)) h4 fun mp15 =>
(aMSt h4 mp15 .i64 x5 (.bool true) fun h16 =>
(Q h16))))))))))))
(onSome p0 fun a17 =>
(inB x6 11
(aM (Addr.add a17 (Int.toNat x6 * 1)) h4 fun mp18 =>
(aMSt h4 mp18 .i64 x5 (.bool true) fun h19 =>
(Q h19)))))))
def buddy_Buddy_add_W (f : buddy_Buddy_add_T) : ArS [.c .p, .c (.i .i64), .c (.i .i64)] EnR := fun p0 p1 p2 K _Kp => f p0 p1 p2 (K (.tuple #[]))

/- demesne/buddy.New -/
abbrev buddy_New_T := Sl → (Option Addr → Int → AH → Prop) → AP
def buddy_New_G (f_buddy_Buddy_add : buddy_Buddy_add_T) (p0 : Sl) (Q : Option Addr → Int → AH → Prop) (h : AH) : Prop :=
(bsel (decide ((Int.ofNat p0.len) > (64 : Int)))
(Q none (4 : Int) h)
(∃ I1 : Int → Int → Nat → AH → Prop, (∃ m2, I1 (0 : Int) (0 : Int) m2 h) ∧ ∀ x5 : Int, ∀ x6 : Int, ∀ m2 h4, I1 x5 x6 m2 h4 → 
(bsel (decide (x6 < (Int.ofNat p0.len)))
(onSome p0.a fun a7 =>
(inB x6 p0.len
(aI .i64 (Addr.add a7 (Int.toNat x6 * 2)) h4 fun n8 =>
(aI .i64 (Addr.add (Addr.add a7 (Int.toNat x6 * 2)) 1) h4 fun n9 =>
(bsel (decide (n8 < x5))
(Q none (3 : Int) h4)
(bsel (decide (n9 ≤ n8))
(Q none (3 : Int) h4)
(bsel (decide (n9 > (1048576 : Int)))
(Q none (3 : Int) h4)
(∃ m3, m3 < m2 ∧ I1 n9 (IntKind.wrap .i64 (x6 + (1 : Int))) m3 h4))))))))
(newA h4 (.map #[] 0) fun b10 h11 =>
(newA h11 (.cells #[(.map none), (.map none), (.map none), (.map none), (.map none), (.map none), (.map none), (.map none), (.map none), (.map none), (.map none), (.map (some b10)), (.int .i64 (0 : Int))] 96) fun b12 h13 =>
(∃ I14 : Int → Nat → AH → Prop, (∃ m15, I14 (0 : Int) m15 h13) ∧ ∀ x18 : Int, ∀ m15 h17, I14 x18 m15 h17 → 
(bsel (decide (x18 < (11 : Int)))
(newA h17 (.map #[] 0) fun b19 h20 =>
(inB x18 11
(aC (Addr.add (Addr.mk b12 0 none) (Int.toNat x18 * 1)) (.map (some b19)) h20 fun h21 =>
(∃ m16, m16 < m15 ∧ I14 (IntKind.wrap .i64 (x18 + (1 : Int))) m16 h21))))
(∃ I22 : Int → Nat → AH → Prop, (∃ m23, I22 (0 : Int) m23 h17) ∧ ∀ x26 : Int, ∀ m23 h25, I22 x26 m23 h25 → 
(bsel (decide (x26 < (Int.ofNat p0.len)))
(onSome p0.a fun a27 =>
(inB x26 p0.len
(aI .i64 (Addr.add a27 (Int.toNat x26 * 2)) h25 fun n28 =>
(aI .i64 (Addr.add (Addr.add a27 (Int.toNat x26 * 2)) 1) h25 fun n29 =>
(∃ I30 : Int → Nat → AH → Prop, (∃ m31, I30 n28 m31 h25) ∧ ∀ x34 : Int, ∀ m31 h33, I30 x34 m31 h33 → 
(bsel (decide (x34 < n29))
(∃ I35 : Int → Nat → AH → Prop, (∃ m36, I35 (0 : Int) m36 h33) ∧ ∀ x39 : Int, ∀ m36 h38, I35 x39 m36 h38 → 
(bsel (decide (x39 < (10 : Int)))
(bsel (decide (x39 < 0)) False
(bsel ((bits .and .i64 x34 (IntKind.wrap .i64 ((1 : Int) * 2 ^ (min (Int.toNat x39) 64)))) == (0 : Int))
(bsel (decide (x39 < 0)) False
(bsel (decide ((IntKind.wrap .i64 (x34 + (IntKind.wrap .i64 ((2 : Int) * 2 ^ (min (Int.toNat x39) 64))))) ≤ n29))
(∃ m37, m37 < m36 ∧ I35 (IntKind.wrap .i64 (x39 + (1 : Int))) m37 h38)
(f_buddy_Buddy_add (some (Addr.mk b12 0 none)) x34 x39 (fun h40 =>
(bsel (decide (x39 < 0)) False
(∃ m32, m32 < m31 ∧ I30 (IntKind.wrap .i64 (x34 + (IntKind.wrap .i64 ((1 : Int) * 2 ^ (min (Int.toNat x39) 64))))) m32 h40))) h38)))
(f_buddy_Buddy_add (some (Addr.mk b12 0 none)) x34 x39 (fun h41 =>
(bsel (decide (x39 < 0)) False
(∃ m32, m32 < m31 ∧ I30 (IntKind.wrap .i64 (x34 + (IntKind.wrap .i64 ((1 : Int) * 2 ^ (min (Int.toNat x39) 64))))) m32 h41))) h38)))
(f_buddy_Buddy_add (some (Addr.mk b12 0 none)) x34 x39 (fun h42 =>
(bsel (decide (x39 < 0)) False
(∃ m32, m32 < m31 ∧ I30 (IntKind.wrap .i64 (x34 + (IntKind.wrap .i64 ((1 : Int) * 2 ^ (min (Int.toNat x39) 64))))) m32 h42))) h38)))
(aI .i64 (Addr.add (Addr.mk b12 0 none) 12) h33 fun n43 =>
(aC (Addr.add (Addr.mk b12 0 none) 12) (.int .i64 (IntKind.wrap .i64 (n43 + (IntKind.wrap .i64 (n29 - n28))))) h33 fun h44 =>
(∃ m24, m24 < m23 ∧ I22 (IntKind.wrap .i64 (x26 + (1 : Int))) m24 h44)))))))))
(Q (some (Addr.mk b12 0 none)) (0 : Int) h25))))))))))
def buddy_New_A : buddy_New_T := buddy_New_G buddy_Buddy_add_A
def buddy_New_W (f : buddy_New_T) : ArS [.c .s] EnR := fun p0 K _Kp => f p0 (fun r0 r1 => K (.tuple #[(.pointer r0), (.int .i64 r1)]))

/- demesne/quota.New -/
abbrev quota_New_T := Int → (Option Addr → Int → AH → Prop) → AP
def quota_New_A (p0 : Int) (Q : Option Addr → Int → AH → Prop) (h : AH) : Prop :=
(bsel (decide (p0 < (0 : Int)))
(Q none (1 : Int) h)
(bsel (decide (p0 > (1048576 : Int)))
(Q none (1 : Int) h)
(newA h (.cells #[(.int .i64 (-1 : Int)), (.int .i64 p0), (.int .i64 (0 : Int)), (.int .i64 (0 : Int)), (.bool true)] 99) fun b1 h2 =>
(newA h2 (.cells #[(.slice (some (Addr.mk b1 0 none)) 1 1)] 102) fun b3 h4 =>
(Q (some (Addr.mk b3 0 none)) (0 : Int) h4)))))
def quota_New_W (f : quota_New_T) : ArS [.c (.i .i64)] EnR := fun p0 K _Kp => f p0 (fun r0 r1 => K (.tuple #[(.pointer r0), (.int .i64 r1)]))

/- demesne/demesnelaw09.Purse -/
abbrev demesnelaw09_Purse_T := Int → Int → (Option Addr → Option Addr → Option Addr → Int → Bool → AH → Prop) → AP
def demesnelaw09_Purse_G (f_ram_New : ram_New_T) (f_buddy_New : buddy_New_T) (f_quota_New : quota_New_T) (p0 : Int) (p1 : Int) (Q : Option Addr → Option Addr → Option Addr → Int → Bool → AH → Prop) (h : AH) : Prop :=
(f_ram_New p0 Sl.nil (fun pt1 n2 h3 =>
(newA h3 (.cells #[(.int .i64 (1 : Int)), (.int .i64 p0)] 31) fun b4 h5 =>
(f_buddy_New (Sl.mk (some (Addr.mk b4 0 none)) 1 1) (fun pt6 n7 h8 =>
(f_quota_New p1 (fun pt9 n10 h11 =>
(bsel (n2 == (0 : Int))
(bsel (n7 == (0 : Int))
(bsel (n10 == (0 : Int))
(bsel (!pt1.isNone)
(bsel (!pt6.isNone)
(Q pt1 pt6 pt9 (0 : Int) (!pt9.isNone) h11)
(Q pt1 pt6 pt9 (0 : Int) false h11))
(Q pt1 pt6 pt9 (0 : Int) false h11))
(Q pt1 pt6 pt9 (0 : Int) false h11))
(Q pt1 pt6 pt9 (0 : Int) false h11))
(Q pt1 pt6 pt9 (0 : Int) false h11))) h8)) h5))) h)
def demesnelaw09_Purse_A : demesnelaw09_Purse_T := demesnelaw09_Purse_G ram_New_A buddy_New_A quota_New_A
def demesnelaw09_Purse_W (f : demesnelaw09_Purse_T) : ArS [.c (.i .i64), .c (.i .i64)] EnR := fun p0 p1 K _Kp => f p0 p1 (fun r0 r1 r2 r3 r4 => K (.tuple #[(.agg #[(.pointer r0), (.pointer r1), (.pointer r2), (.int .i64 r3)]), (.bool r4)]))

/- (*demesne/quota.Tree).at -/
abbrev quota_Tree_at_T := Option Addr → Int → (Option Addr → Bool → AH → Prop) → AP
def quota_Tree_at_A (p0 : Option Addr) (p1 : Int) (Q : Option Addr → Bool → AH → Prop) (h : AH) : Prop :=
(bsel (decide (p1 < (0 : Int)))
(Q none false h)
(onSome p0 fun a1 =>
(aS a1 h fun s2 =>
(bsel (decide (p1 ≥ (Int.ofNat s2.len)))
(Q none false h)
(onSome p0 fun a3 =>
(aS a3 h fun s4 =>
(onSome s4.a fun a5 =>
(inB p1 s4.len
(aB (Addr.add (Addr.add a5 (Int.toNat p1 * 5)) 4) h fun b6 =>
(bsel (!b6)
(Q none false h)
(onSome p0 fun a7 =>
(aS a7 h fun s8 =>
(onSome s8.a fun a9 =>
(inB p1 s8.len
(Q (some (Addr.add a9 (Int.toNat p1 * 5))) true h)))))))))))))))
def quota_Tree_at_W (f : quota_Tree_at_T) : ArS [.c .p, .c (.i .i64)] EnR := fun p0 p1 K _Kp => f p0 p1 (fun r0 r1 => K (.tuple #[(.pointer r0), (.bool r1)]))

/- (*demesne/quota.Tree).Room -/
abbrev quota_Tree_Room_T := Option Addr → Int → (Int → AH → Prop) → AP
def quota_Tree_Room_G (f_quota_Tree_at : quota_Tree_at_T) (p0 : Option Addr) (p1 : Int) (Q : Int → AH → Prop) (h : AH) : Prop :=
(f_quota_Tree_at p0 p1 (fun pt1 b2 h3 =>
(bsel (!b2)
(Q (0 : Int) h3)
(onSome pt1 fun a4 =>
(aI .i64 (Addr.add a4 1) h3 fun n5 =>
(onSome pt1 fun a6 =>
(aI .i64 (Addr.add a6 2) h3 fun n7 =>
(onSome pt1 fun a8 =>
(aI .i64 (Addr.add a8 3) h3 fun n9 =>
(Q (IntKind.wrap .i64 ((IntKind.wrap .i64 (n5 - n7)) - n9)) h3))))))))) h)
def quota_Tree_Room_A : quota_Tree_Room_T := quota_Tree_Room_G quota_Tree_at_A
def quota_Tree_Room_W (f : quota_Tree_Room_T) : ArS [.c .p, .c (.i .i64)] EnR := fun p0 p1 K _Kp => f p0 p1 (fun r0 => K (.int .i64 r0))

/- (*demesne/quota.Tree).Charge -/
abbrev quota_Tree_Charge_T := Option Addr → Int → Int → (Int → AH → Prop) → AP
def quota_Tree_Charge_G (f_quota_Tree_at : quota_Tree_at_T) (f_quota_Tree_Room : quota_Tree_Room_T) (p0 : Option Addr) (p1 : Int) (p2 : Int) (Q : Int → AH → Prop) (h : AH) : Prop :=
(f_quota_Tree_at p0 p1 (fun pt1 b2 h3 =>
(bsel (!b2)
(Q (5 : Int) h3)
(bsel (decide (p2 < (0 : Int)))
(Q (1 : Int) h3)
(f_quota_Tree_Room p0 p1 (fun n4 h5 =>
(bsel (decide (p2 > n4))
(Q (8 : Int) h5)
(onSome pt1 fun a6 =>
(aI .i64 (Addr.add a6 2) h5 fun n7 =>
(onSome pt1 fun a8 =>
(aC (Addr.add a8 2) (.int .i64 (IntKind.wrap .i64 (n7 + p2))) h5 fun h9 =>
(Q (0 : Int) h9))))))) h3)))) h)
def quota_Tree_Charge_A : quota_Tree_Charge_T := quota_Tree_Charge_G quota_Tree_at_A quota_Tree_Room_A
def quota_Tree_Charge_W (f : quota_Tree_Charge_T) : ArS [.c .p, .c (.i .i64), .c (.i .i64)] EnR := fun p0 p1 p2 K _Kp => f p0 p1 p2 (fun r0 => K (.int .i64 r0))

/- maps.Keys[map[int]bool,int,bool] -/
abbrev maps_Keys_map_int_bool_int_bool_T := Option Nat → (Option Addr → AH → Prop) → AP
def maps_Keys_map_int_bool_int_bool_A (p0 : Option Nat) (Q : Option Addr → AH → Prop) (h : AH) : Prop :=
(newA h (.cells #[(.map p0)] 93) fun b1 h2 =>
(Q (some (Addr.mk b1 0 none)) h2))
def maps_Keys_map_int_bool_int_bool_W (f : maps_Keys_map_int_bool_int_bool_T) : ArS [.c .m] EnR := fun p0 K _Kp => f p0 (fun r0 => K (.func (.func 81) #[] #[(.pointer r0)]))

/- slices.Collect[int] of maps.Keys[map[int]bool,int,bool]$1: by the kit -/
abbrev slices_Collect_int_T := Option Addr → (Sl → AH → Prop) → AP
def slices_Collect_int_A : slices_Collect_int_T := clA 3
def slices_Collect_int_W (f : slices_Collect_int_T) : ArS [.fn 81 [] [.p]] EnR := fun p0 K _Kp => f p0 (fun r0 => K (.slice r0.a r0.len r0.cap))

/- slices.Min[[]int,int] -/
abbrev slices_Min_int_int_T := Sl → (Int → AH → Prop) → AP
def slices_Min_int_int_A (p0 : Sl) (Q : Int → AH → Prop) (h : AH) : Prop :=
(∃ R1 : AH → Prop, (∀ h2, R1 h2 → 
(onSome p0.a fun a3 =>
(inB (0 : Int) p0.len
(aI .i64 a3 h2 fun n4 =>
(∃ I5 : Int → Int → Nat → AH → Prop, (∃ m6, I5 n4 (1 : Int) m6 h2) ∧ ∀ x9 : Int, ∀ x10 : Int, ∀ m6 h8, I5 x9 x10 m6 h8 → 
(bsel (decide (x10 < (Int.ofNat p0.len)))
(onSome p0.a fun a11 =>
(inB x10 p0.len
(aI .i64 (Addr.add a11 (Int.toNat x10 * 1)) h8 fun n12 =>
(∃ m7, m7 < m6 ∧ I5 (if n12 < x9 then n12 else x9) (IntKind.wrap .i64 (x10 + (1 : Int))) m7 h8))))
(Q x9 h8))))))) ∧
(bsel (decide ((Int.ofNat p0.len) < (1 : Int)))
False
(R1 h)))
def slices_Min_int_int_W (f : slices_Min_int_int_T) : ArS [.c .s] EnR := fun p0 K _Kp => f p0 (fun r0 => K (.int .i64 r0))

/- (*demesne/buddy.Buddy).Take -/
abbrev buddy_Buddy_Take_T := Option Addr → Int → (Int → Int → AH → Prop) → AP
def buddy_Buddy_Take_G (f_maps_Keys_map_int_bool_int_bool : maps_Keys_map_int_bool_int_bool_T) (f_slices_Collect_int : slices_Collect_int_T) (f_slices_Min_int_int : slices_Min_int_int_T) (p0 : Option Addr) (p1 : Int) (Q : Int → Int → AH → Prop) (h : AH) : Prop :=
(∃ R1 : AH → Prop, (∀ h2, R1 h2 → 
(∃ R3 : Int → AH → Prop, (∀ x12 : Int, ∀ h13, R3 x12 h13 → 
(bsel (decide (x12 > (10 : Int)))
(Q (0 : Int) (7 : Int) h13)
(onSome p0 fun a14 =>
(inB x12 11
(aM (Addr.add a14 (Int.toNat x12 * 1)) h13 fun mp15 =>
(f_maps_Keys_map_int_bool_int_bool mp15 (fun pt16 h17 =>
(f_slices_Collect_int pt16 (fun s18 h19 =>
(f_slices_Min_int_int s18 (fun n20 h21 =>
(onSome p0 fun a22 =>
(inB x12 11
(aM (Addr.add a22 (Int.toNat x12 * 1)) h21 fun mp23 =>
(aMDl h21 mp23 .i64 n20 fun h24 =>
(∃ I25 : Int → Nat → AH → Prop, (∃ m26, I25 x12 m26 h24) ∧ ∀ x29 : Int, ∀ m26 h28, I25 x29 m26 h28 → 
(bsel (decide (x29 > p1))
(onSome p0 fun a30 =>
(inB (IntKind.wrap .i64 (x29 - (1 : Int))) 11
(aM (Addr.add a30 (Int.toNat (IntKind.wrap .i64 (x29 - (1 : Int))) * 1)) h28 fun mp31 =>
(bsel (decide ((IntKind.wrap .i64 (x29 - (1 : Int))) < 0)) False
(aMSt h28 mp31 .i64 (IntKind.wrap .i64 (n20 + (IntKind.wrap .i64 ((1 : Int) * 2 ^ (min (Int.toNat (IntKind.wrap .i64 (x29 - (1 : Int)))) 64))))) (.bool true) fun h32 =>
(∃ m27, m27 < m26 ∧ I25 (IntKind.wrap .i64 (x29 - (1 : Int))) m27 h32))))))
(onSome p0 fun a33 =>
(aM (Addr.add a33 11) h28 fun mp34 =>
(aMSt h28 mp34 .i64 n20 (.int .i64 p1) fun h35 =>
(onSome p0 fun a36 =>
(aI .i64 (Addr.add a36 12) h35 fun n37 =>
(bsel (decide (p1 < 0)) False
(onSome p0 fun a38 =>
(aC (Addr.add a38 12) (.int .i64 (IntKind.wrap .i64 (n37 - (IntKind.wrap .i64 ((1 : Int) * 2 ^ (min (Int.toNat p1) 64)))))) h35 fun h39 =>
(Q n20 (0 : Int) h39)))))))))))))))) h19)) h17)) h13)))))) ∧
(∃ I4 : Int → Nat → AH → Prop, (∃ m5, I4 p1 m5 h2) ∧ ∀ x8 : Int, ∀ m5 h7, I4 x8 m5 h7 → 
(bsel (decide (x8 ≤ (10 : Int)))
(onSome p0 fun a9 =>
(inB x8 11
(aM (Addr.add a9 (Int.toNat x8 * 1)) h7 fun mp10 =>
(aMLn h7 mp10 fun n11 =>
(bsel (n11 == (0 : Int))
(∃ m6, m6 < m5 ∧ I4 (IntKind.wrap .i64 (x8 + (1 : Int))) m6 h7)
(R3 x8 h7))))))
(R3 x8 h7))))) ∧
(bsel (decide (p1 < (0 : Int)))
(Q (0 : Int) (1 : Int) h)
(bsel (decide (p1 > (10 : Int)))
(Q (0 : Int) (1 : Int) h)
(R1 h))))
def buddy_Buddy_Take_A : buddy_Buddy_Take_T := buddy_Buddy_Take_G maps_Keys_map_int_bool_int_bool_A slices_Collect_int_A slices_Min_int_int_A
def buddy_Buddy_Take_W (f : buddy_Buddy_Take_T) : ArS [.c .p, .c (.i .i64)] EnR := fun p0 p1 K _Kp => f p0 p1 (fun r0 r1 => K (.tuple #[(.int .i64 r0), (.int .i64 r1)]))

/- (*demesne/ram.RAM).Has -/
abbrev ram_RAM_Has_T := Option Addr → Int → (Bool → AH → Prop) → AP
def ram_RAM_Has_A (p0 : Option Addr) (p1 : Int) (Q : Bool → AH → Prop) (h : AH) : Prop :=
(bsel (decide (p1 < (0 : Int)))
(Q false h)
(onSome p0 fun a1 =>
(aI .i64 a1 h fun n2 =>
(bsel (decide (p1 ≥ n2))
(Q false h)
(onSome p0 fun a3 =>
(aS (Addr.add a3 1) h fun s4 =>
(∃ I5 : Int → Nat → AH → Prop, (∃ m6, I5 (0 : Int) m6 h) ∧ ∀ x9 : Int, ∀ m6 h8, I5 x9 m6 h8 → 
(bsel (decide (x9 < (Int.ofNat s4.len)))
(onSome s4.a fun a10 =>
(inB x9 s4.len
(aI .i64 (Addr.add a10 (Int.toNat x9 * 2)) h8 fun n11 =>
(aI .i64 (Addr.add (Addr.add a10 (Int.toNat x9 * 2)) 1) h8 fun n12 =>
(bsel (decide (p1 ≥ n11))
(bsel (decide (p1 < n12))
(Q false h8)
(∃ m7, m7 < m6 ∧ I5 (IntKind.wrap .i64 (x9 + (1 : Int))) m7 h8))
(∃ m7, m7 < m6 ∧ I5 (IntKind.wrap .i64 (x9 + (1 : Int))) m7 h8))))))
(Q true h8)))))))))
def ram_RAM_Has_W (f : ram_RAM_Has_T) : ArS [.c .p, .c (.i .i64)] EnR := fun p0 p1 K _Kp => f p0 p1 (fun r0 => K (.bool r0))

/- (*demesne/ram.RAM).Zero -/
abbrev ram_RAM_Zero_T := Option Addr → Int → (Int → AH → Prop) → AP
def ram_RAM_Zero_G (f_ram_RAM_Has : ram_RAM_Has_T) (p0 : Option Addr) (p1 : Int) (Q : Int → AH → Prop) (h : AH) : Prop :=
(f_ram_RAM_Has p0 p1 (fun b1 h2 =>
(bsel (!b1)
(Q (2 : Int) h2)
(onSome p0 fun a3 =>
(aM (Addr.add a3 2) h2 fun mp4 =>
(aMDl h2 mp4 .i64 p1 fun h5 =>
(Q (0 : Int) h5)))))) h)
def ram_RAM_Zero_A : ram_RAM_Zero_T := ram_RAM_Zero_G ram_RAM_Has_A
def ram_RAM_Zero_W (f : ram_RAM_Zero_T) : ArS [.c .p, .c (.i .i64)] EnR := fun p0 p1 K _Kp => f p0 p1 (fun r0 => K (.int .i64 r0))

/- (*demesne/buddy.Buddy).Give -/
abbrev buddy_Buddy_Give_T := Option Addr → Int → (Int → AH → Prop) → AP
def buddy_Buddy_Give_G (f_buddy_Buddy_add : buddy_Buddy_add_T) (p0 : Option Addr) (p1 : Int) (Q : Int → AH → Prop) (h : AH) : Prop :=
(onSome p0 fun a1 =>
(aM (Addr.add a1 11) h fun mp2 =>
(aLk h mp2 .i64 p1 fun o3 =>
(∃ n4 : Int, ((o3.getD (.int .i64 (0 : Int))) : Value) = (.int .i64 n4) ∧
(bsel (!o3.isSome)
(Q (5 : Int) h)
(onSome p0 fun a5 =>
(aM (Addr.add a5 11) h fun mp6 =>
(aMDl h mp6 .i64 p1 fun h7 =>
(onSome p0 fun a8 =>
(aI .i64 (Addr.add a8 12) h7 fun n9 =>
(bsel (decide (n4 < 0)) False
(onSome p0 fun a10 =>
(aC (Addr.add a10 12) (.int .i64 (IntKind.wrap .i64 (n9 + (IntKind.wrap .i64 ((1 : Int) * 2 ^ (min (Int.toNat n4) 64)))))) h7 fun h11 =>
(f_buddy_Buddy_add p0 p1 n4 (fun h12 =>
(Q (0 : Int) h12)) h11))))))))))))))
def buddy_Buddy_Give_A : buddy_Buddy_Give_T := buddy_Buddy_Give_G buddy_Buddy_add_A
def buddy_Buddy_Give_W (f : buddy_Buddy_Give_T) : ArS [.c .p, .c (.i .i64)] EnR := fun p0 p1 K _Kp => f p0 p1 (fun r0 => K (.int .i64 r0))

/- (*demesne/quota.Tree).Credit -/
abbrev quota_Tree_Credit_T := Option Addr → Int → Int → (Int → AH → Prop) → AP
def quota_Tree_Credit_G (f_quota_Tree_at : quota_Tree_at_T) (p0 : Option Addr) (p1 : Int) (p2 : Int) (Q : Int → AH → Prop) (h : AH) : Prop :=
(f_quota_Tree_at p0 p1 (fun pt1 b2 h3 =>
(bsel (!b2)
(Q (5 : Int) h3)
(bsel (decide (p2 < (0 : Int)))
(Q (1 : Int) h3)
(onSome pt1 fun a4 =>
(aI .i64 (Addr.add a4 2) h3 fun n5 =>
(bsel (decide (p2 > n5))
(Q (1 : Int) h3)
(onSome pt1 fun a6 =>
(aI .i64 (Addr.add a6 2) h3 fun n7 =>
(onSome pt1 fun a8 =>
(aC (Addr.add a8 2) (.int .i64 (IntKind.wrap .i64 (n7 - p2))) h3 fun h9 =>
(Q (0 : Int) h9))))))))))) h)
def quota_Tree_Credit_A : quota_Tree_Credit_T := quota_Tree_Credit_G quota_Tree_at_A
def quota_Tree_Credit_W (f : quota_Tree_Credit_T) : ArS [.c .p, .c (.i .i64), .c (.i .i64)] EnR := fun p0 p1 p2 K _Kp => f p0 p1 p2 (fun r0 => K (.int .i64 r0))

/- (demesne/table.Purse).Take -/
abbrev table_Purse_Take_T := Option Addr → Option Addr → Option Addr → Int → (Int → Int → AH → Prop) → AP
def table_Purse_Take_G (f_quota_Tree_Charge : quota_Tree_Charge_T) (f_buddy_Buddy_Take : buddy_Buddy_Take_T) (f_ram_RAM_Zero : ram_RAM_Zero_T) (f_buddy_Buddy_Give : buddy_Buddy_Give_T) (f_quota_Tree_Credit : quota_Tree_Credit_T) (p0 : Option Addr) (p1 : Option Addr) (p2 : Option Addr) (p3 : Int) (Q : Int → Int → AH → Prop) (h : AH) : Prop :=
(f_quota_Tree_Charge p2 p3 (1 : Int) (fun n1 h2 =>
(bsel (n1 != (0 : Int))
(Q (0 : Int) n1 h2)
(f_buddy_Buddy_Take p1 (0 : Int) (fun n3 n4 h5 =>
(∃ R6 : Int → AH → Prop, (∀ x11 : Int, ∀ h12, R6 x11 h12 → 
(f_quota_Tree_Credit p2 p3 (1 : Int) (fun n13 h14 =>
(Q (0 : Int) x11 h14)) h12)) ∧
(bsel (n4 == (0 : Int))
(f_ram_RAM_Zero p0 n3 (fun n7 h8 =>
(bsel (n7 == (0 : Int))
(Q n3 (0 : Int) h8)
(f_buddy_Buddy_Give p1 n3 (fun n9 h10 =>
(R6 n7 h10)) h8))) h5)
(R6 n4 h5)))) h2))) h)
def table_Purse_Take_A : table_Purse_Take_T := table_Purse_Take_G quota_Tree_Charge_A buddy_Buddy_Take_A ram_RAM_Zero_A buddy_Buddy_Give_A quota_Tree_Credit_A
def table_Purse_Take_W (f : table_Purse_Take_T) : ArS [.agg [.p, .p, .p, (.i .i64)]] EnR := fun p0 p1 p2 p3 K _Kp => f p0 p1 p2 p3 (fun r0 r1 => K (.tuple #[(.int .i64 r0), (.int .i64 r1)]))

/- (*demesne/ram.RAM).Frames -/
abbrev ram_RAM_Frames_T := Option Addr → (Int → AH → Prop) → AP
def ram_RAM_Frames_A (p0 : Option Addr) (Q : Int → AH → Prop) (h : AH) : Prop :=
(onSome p0 fun a1 =>
(aI .i64 a1 h fun n2 =>
(Q n2 h)))
def ram_RAM_Frames_W (f : ram_RAM_Frames_T) : ArS [.c .p] EnR := fun p0 K _Kp => f p0 (fun r0 => K (.int .i64 r0))

/- (demesne/table.Purse).Give -/
abbrev table_Purse_Give_T := Option Addr → Option Addr → Option Addr → Int → Int → (AH → Prop) → AP
def table_Purse_Give_G (f_buddy_Buddy_Give : buddy_Buddy_Give_T) (f_quota_Tree_Credit : quota_Tree_Credit_T) (_p0 : Option Addr) (p1 : Option Addr) (p2 : Option Addr) (p3 : Int) (p4 : Int) (Q : AH → Prop) (h : AH) : Prop :=
(f_buddy_Buddy_Give p1 p4 (fun n1 h2 =>
(f_quota_Tree_Credit p2 p3 (1 : Int) (fun n3 h4 =>
(Q h4)) h2)) h)
def table_Purse_Give_A : table_Purse_Give_T := table_Purse_Give_G buddy_Buddy_Give_A quota_Tree_Credit_A
def table_Purse_Give_W (f : table_Purse_Give_T) : ArS [.agg [.p, .p, .p, (.i .i64)], .c (.i .i64)] EnR := fun p0 p1 p2 p3 p4 K _Kp => f p0 p1 p2 p3 p4 (K (.tuple #[]))

/- (*demesne/pte.Entry).flags -/
abbrev pte_Entry_flags_T := Option Addr → (Option Addr → Option Addr → Option Addr → Option Addr → Option Addr → Option Addr → Option Addr → Option Addr → AH → Prop) → AP
def pte_Entry_flags_A (p0 : Option Addr) (Q : Option Addr → Option Addr → Option Addr → Option Addr → Option Addr → Option Addr → Option Addr → Option Addr → AH → Prop) (h : AH) : Prop :=
(onSome p0 fun a1 =>
(onSome p0 fun a2 =>
(onSome p0 fun a3 =>
(onSome p0 fun a4 =>
(onSome p0 fun a5 =>
(onSome p0 fun a6 =>
(onSome p0 fun a7 =>
(onSome p0 fun a8 =>
(Q ((some a1) : Option Addr) ((some (Addr.add a2 1)) : Option Addr) ((some (Addr.add a3 2)) : Option Addr) ((some (Addr.add a4 3)) : Option Addr) ((some (Addr.add a5 4)) : Option Addr) ((some (Addr.add a6 5)) : Option Addr) ((some (Addr.add a7 6)) : Option Addr) ((some (Addr.add a8 7)) : Option Addr) h)))))))))
def pte_Entry_flags_W (f : pte_Entry_flags_T) : ArS [.c .p] EnR := fun p0 K _Kp => f p0 (fun r0 r1 r2 r3 r4 r5 r6 r7 => K (.agg #[(.pointer r0), (.pointer r1), (.pointer r2), (.pointer r3), (.pointer r4), (.pointer r5), (.pointer r6), (.pointer r7)]))

/- demesne/pte.places -/
abbrev pte_places_T := (Int → Int → Int → Int → Int → Int → Int → Int → AH → Prop) → AP
def pte_places_A (Q : Int → Int → Int → Int → Int → Int → Int → Int → AH → Prop) (h : AH) : Prop :=
(Q (0 : Int) (1 : Int) (2 : Int) (5 : Int) (6 : Int) (7 : Int) (8 : Int) (63 : Int) h)
def pte_places_W (f : pte_places_T) : ArS [] EnR := fun  K _Kp => f  (fun r0 r1 r2 r3 r4 r5 r6 r7 => K (.agg #[(.int .i64 r0), (.int .i64 r1), (.int .i64 r2), (.int .i64 r3), (.int .i64 r4), (.int .i64 r5), (.int .i64 r6), (.int .i64 r7)]))

/- demesne/pte.Pack -/
abbrev pte_Pack_T := Bool → Bool → Bool → Bool → Bool → Bool → Bool → Bool → Int → (Int → Int → AH → Prop) → AP
def pte_Pack_G (f_pte_Entry_flags : pte_Entry_flags_T) (f_pte_places : pte_places_T) (p0 : Bool) (p1 : Bool) (p2 : Bool) (p3 : Bool) (p4 : Bool) (p5 : Bool) (p6 : Bool) (p7 : Bool) (p8 : Int) (Q : Int → Int → AH → Prop) (h : AH) : Prop :=
(newA h (.cells #[(.bool p0), (.bool p1), (.bool p2), (.bool p3), (.bool p4), (.bool p5), (.bool p6), (.bool p7), (.int .i64 p8)] 107) fun b1 h2 =>
(∃ R3 : AH → Prop, (∀ h6, R3 h6 → 
(aI .i64 (Addr.add (Addr.mk b1 0 none) 8) h6 fun n7 =>
(f_pte_Entry_flags (some (Addr.mk b1 0 none)) (fun pt8 pt9 pt10 pt11 pt12 pt13 pt14 pt15 h16 =>
(∃ I17 : Int → Int → Nat → AH → Prop, (∃ m18, I17 (IntKind.wrap .u64 ((IntKind.wrap .u64 n7) * 2 ^ (12 : Nat))) (0 : Int) m18 h16) ∧ ∀ x21 : Int, ∀ x22 : Int, ∀ m18 h20, I17 x21 x22 m18 h20 → 
(bsel (decide (x22 < (8 : Int)))
(∃ R23 : Int → AH → Prop, (∀ x37 : Int, ∀ h38, R23 x37 h38 → 
(∃ m19, m19 < m18 ∧ I17 x37 (IntKind.wrap .i64 (x22 + (1 : Int))) m19 h38)) ∧
(inB x22 8
(geP [(.pointer pt8), (.pointer pt9), (.pointer pt10), (.pointer pt11), (.pointer pt12), (.pointer pt13), (.pointer pt14), (.pointer pt15)] (Int.toNat x22) fun n24 =>
(onSome n24 fun a25 =>
(aB a25 h20 fun b26 =>
(bsel b26
(f_pte_places (fun n27 n28 n29 n30 n31 n32 n33 n34 h35 =>
(inB x22 8
(geI .i64 [(.int .i64 n27), (.int .i64 n28), (.int .i64 n29), (.int .i64 n30), (.int .i64 n31), (.int .i64 n32), (.int .i64 n33), (.int .i64 n34)] (Int.toNat x22) fun n36 =>
(bsel (decide (n36 < 0)) False
(R23 (bits .or .u64 x21 (IntKind.wrap .u64 ((1 : Int) * 2 ^ (min (Int.toNat n36) 64)))) h35))))) h20)
(R23 x21 h20)))))))
(Q x21 (0 : Int) h20)))) h6))) ∧
(aI .i64 (Addr.add (Addr.mk b1 0 none) 8) h2 fun n4 =>
(bsel (decide (n4 < (0 : Int)))
(Q (0 : Int) (1 : Int) h2)
(aI .i64 (Addr.add (Addr.mk b1 0 none) 8) h2 fun n5 =>
(bsel (decide (n5 ≥ (1048576 : Int)))
(Q (0 : Int) (1 : Int) h2)
(R3 h2)))))))
def pte_Pack_A : pte_Pack_T := pte_Pack_G pte_Entry_flags_A pte_places_A
def pte_Pack_W (f : pte_Pack_T) : ArS [.agg [.b, .b, .b, .b, .b, .b, .b, .b, (.i .i64)]] EnR := fun p0 p1 p2 p3 p4 p5 p6 p7 p8 K _Kp => f p0 p1 p2 p3 p4 p5 p6 p7 p8 (fun r0 r1 => K (.tuple #[(.int .u64 r0), (.int .i64 r1)]))

/- demesne/table.place -/
abbrev table_place_T := Int → Int → (Int → AH → Prop) → AP
def table_place_A (p0 : Int) (p1 : Int) (Q : Int → AH → Prop) (h : AH) : Prop :=
(Q (IntKind.wrap .u64 ((IntKind.wrap .u64 ((IntKind.wrap .u64 p0) * (4096 : Int))) + (IntKind.wrap .u64 (IntKind.wrap .i64 ((8 : Int) * p1))))) h)
def table_place_W (f : table_place_T) : ArS [.c (.i .i64), .c (.i .i64)] EnR := fun p0 p1 K _Kp => f p0 p1 (fun r0 => K (.int .u64 r0))

/- (*demesne/ram.RAM).check -/
abbrev ram_RAM_check_T := Option Addr → Int → Int → (Int → AH → Prop) → AP
def ram_RAM_check_G (f_ram_RAM_Has : ram_RAM_Has_T) (p0 : Option Addr) (p1 : Int) (p2 : Int) (Q : Int → AH → Prop) (h : AH) : Prop :=
(∃ R1 : Bool → AH → Prop, (∀ b2 : Bool, ∀ h3, R1 b2 h3 → 
(bsel b2
(bsel (decide ((IntKind.wrap .u64 ((IntKind.wrap .u64 (p1 + (IntKind.wrap .u64 p2))) - (1 : Int))) < p1))
(Q (2 : Int) h3)
(onSome p0 fun a4 =>
(aI .i64 a4 h3 fun n5 =>
(bsel (decide ((IntKind.wrap .u64 (Int.tdiv (IntKind.wrap .u64 ((IntKind.wrap .u64 (p1 + (IntKind.wrap .u64 p2))) - (1 : Int))) (4096 : Int))) ≥ (IntKind.wrap .u64 n5)))
(Q (2 : Int) h3)
(f_ram_RAM_Has p0 (IntKind.wrap .i64 (IntKind.wrap .u64 (Int.tdiv p1 (4096 : Int)))) (fun b6 h7 =>
(bsel (!b6)
(Q (2 : Int) h7)
(f_ram_RAM_Has p0 (IntKind.wrap .i64 (IntKind.wrap .u64 (Int.tdiv (IntKind.wrap .u64 ((IntKind.wrap .u64 (p1 + (IntKind.wrap .u64 p2))) - (1 : Int))) (4096 : Int)))) (fun b8 h9 =>
(bsel (!b8)
(Q (2 : Int) h9)
(Q (0 : Int) h9))) h7))) h3)))))
(Q (1 : Int) h3))) ∧
(bsel (p2 == (1 : Int))
(R1 (p2 == (1 : Int)) h)
(bsel (p2 == (2 : Int))
(R1 (p2 == (2 : Int)) h)
(bsel (p2 == (4 : Int))
(R1 (p2 == (4 : Int)) h)
(R1 (p2 == (8 : Int)) h)))))
def ram_RAM_check_A : ram_RAM_check_T := ram_RAM_check_G ram_RAM_Has_A
def ram_RAM_check_W (f : ram_RAM_check_T) : ArS [.c .p, .c (.i .u64), .c (.i .i64)] EnR := fun p0 p1 p2 K _Kp => f p0 p1 p2 (fun r0 => K (.int .i64 r0))

/- (*demesne/ram.RAM).own -/
abbrev ram_RAM_own_T := Option Addr → Int → (Option Addr → AH → Prop) → AP
def ram_RAM_own_A (p0 : Option Addr) (p1 : Int) (Q : Option Addr → AH → Prop) (h : AH) : Prop :=
(onSome p0 fun a1 =>
(aM (Addr.add a1 2) h fun mp2 =>
(aLk h mp2 .i64 p1 fun o3 =>
(∃ pt4 : Option Addr, ((o3.getD (.pointer none)) : Value) = (.pointer pt4) ∧
(∃ R5 : Option Addr → AH → Prop, (∀ pt11 : Option Addr, ∀ h12, R5 pt11 h12 → 
(Q pt11 h12)) ∧
(bsel pt4.isNone
(newA h (.cells (Array.replicate 4096 (.int .u8 (0 : Int))) 152) fun b6 h7 =>
(onSome p0 fun a8 =>
(aM (Addr.add a8 2) h7 fun mp9 =>
(aMSt h7 mp9 .i64 p1 (.pointer (some (Addr.mk b6 0 none))) fun h10 =>
(R5 (some (Addr.mk b6 0 none)) h10)))))
(R5 pt4 h)))))))
def ram_RAM_own_W (f : ram_RAM_own_T) : ArS [.c .p, .c (.i .i64)] EnR := fun p0 p1 K _Kp => f p0 p1 (fun r0 => K (.pointer r0))

/- (*demesne/ram.RAM).Store -/
abbrev ram_RAM_Store_T := Option Addr → Int → Int → Int → (Int → AH → Prop) → AP
def ram_RAM_Store_G (f_ram_RAM_check : ram_RAM_check_T) (f_ram_RAM_own : ram_RAM_own_T) (p0 : Option Addr) (p1 : Int) (p2 : Int) (p3 : Int) (Q : Int → AH → Prop) (h : AH) : Prop :=
(f_ram_RAM_check p0 p1 p2 (fun n1 h2 =>
(bsel (n1 != (0 : Int))
(Q n1 h2)
(∃ I3 : Int → Nat → AH → Prop, (∃ m4, I3 (0 : Int) m4 h2) ∧ ∀ x7 : Int, ∀ m4 h6, I3 x7 m4 h6 → 
(bsel (decide (x7 < p2))
(bsel (decide ((IntKind.wrap .i64 ((8 : Int) * x7)) < 0)) False
(f_ram_RAM_own p0 (IntKind.wrap .i64 (IntKind.wrap .u64 (Int.tdiv (IntKind.wrap .u64 (p1 + (IntKind.wrap .u64 x7))) (4096 : Int)))) (fun pt8 h9 =>
(onSome pt8 fun a10 =>
(inB (Int.tmod (IntKind.wrap .u64 (p1 + (IntKind.wrap .u64 x7))) (4096 : Int)) 4096
(aC (Addr.add a10 (Int.toNat (Int.tmod (IntKind.wrap .u64 (p1 + (IntKind.wrap .u64 x7))) (4096 : Int)) * 1)) (.int .u8 (IntKind.wrap .u8 (Int.fdiv p3 (2 ^ (min (Int.toNat (IntKind.wrap .i64 ((8 : Int) * x7))) 64))))) h9 fun h11 =>
(∃ m5, m5 < m4 ∧ I3 (IntKind.wrap .i64 (x7 + (1 : Int))) m5 h11))))) h6))
(Q (0 : Int) h6))))) h)
def ram_RAM_Store_A : ram_RAM_Store_T := ram_RAM_Store_G ram_RAM_check_A ram_RAM_own_A
def ram_RAM_Store_W (f : ram_RAM_Store_T) : ArS [.c .p, .c (.i .u64), .c (.i .i64), .c (.i .u64)] EnR := fun p0 p1 p2 p3 K _Kp => f p0 p1 p2 p3 (fun r0 => K (.int .i64 r0))

/- (demesne/table.Purse).put -/
abbrev table_Purse_put_T := Option Addr → Option Addr → Option Addr → Int → Int → Int → Bool → Bool → Bool → Bool → Bool → Bool → Bool → Bool → Int → (AH → Prop) → AP
def table_Purse_put_G (f_pte_Pack : pte_Pack_T) (f_table_place : table_place_T) (f_ram_RAM_Store : ram_RAM_Store_T) (p0 : Option Addr) (_p1 : Option Addr) (_p2 : Option Addr) (_p3 : Int) (p4 : Int) (p5 : Int) (p6 : Bool) (p7 : Bool) (p8 : Bool) (p9 : Bool) (p10 : Bool) (p11 : Bool) (p12 : Bool) (p13 : Bool) (p14 : Int) (Q : AH → Prop) (h : AH) : Prop :=
(f_pte_Pack p6 p7 p8 p9 p10 p11 p12 p13 p14 (fun n1 n2 h3 =>
(f_table_place p4 p5 (fun n4 h5 =>
(f_ram_RAM_Store p0 n4 (8 : Int) n1 (fun n6 h7 =>
(Q h7)) h5)) h3)) h)
def table_Purse_put_A : table_Purse_put_T := table_Purse_put_G pte_Pack_A table_place_A ram_RAM_Store_A
def table_Purse_put_W (f : table_Purse_put_T) : ArS [.agg [.p, .p, .p, (.i .i64)], .c (.i .i64), .c (.i .i64), .agg [.b, .b, .b, .b, .b, .b, .b, .b, (.i .i64)]] EnR := fun p0 p1 p2 p3 p4 p5 p6 p7 p8 p9 p10 p11 p12 p13 p14 K _Kp => f p0 p1 p2 p3 p4 p5 p6 p7 p8 p9 p10 p11 p12 p13 p14 (K (.tuple #[]))

/- demesne/table.Kernel -/
abbrev table_Kernel_T := Option Addr → Option Addr → Option Addr → Int → (Int → Int → AH → Prop) → AP
def table_Kernel_G (f_table_Purse_Take : table_Purse_Take_T) (f_ram_RAM_Frames : ram_RAM_Frames_T) (f_table_Purse_Give : table_Purse_Give_T) (f_table_Purse_put : table_Purse_put_T) (p0 : Option Addr) (p1 : Option Addr) (p2 : Option Addr) (p3 : Int) (Q : Int → Int → AH → Prop) (h : AH) : Prop :=
(f_table_Purse_Take p0 p1 p2 p3 (fun n1 n2 h3 =>
(bsel (n2 != (0 : Int))
(Q (0 : Int) n2 h3)
(newA h3 (.cells #[(.int .i64 n1)] 3) fun b4 h5 =>
(∃ I6 : Sl → Int → Nat → AH → Prop, (∃ m7, I6 (Sl.mk (some (Addr.mk b4 0 none)) 1 1) (0 : Int) m7 h5) ∧ ∀ s10 : Sl, ∀ x11 : Int, ∀ m7 h9, I6 s10 x11 m7 h9 → 
(f_ram_RAM_Frames p0 (fun n12 h13 =>
(bsel (decide (x11 < n12))
(f_table_Purse_Take p0 p1 p2 p3 (fun n14 n15 h16 =>
(bsel (n15 != (0 : Int))
(∃ I17 : Int → Nat → AH → Prop, (∃ m18, I17 (0 : Int) m18 h16) ∧ ∀ x21 : Int, ∀ m18 h20, I17 x21 m18 h20 → 
(bsel (decide (x21 < (Int.ofNat s10.len)))
(onSome s10.a fun a22 =>
(inB x21 s10.len
(aI .i64 (Addr.add a22 (Int.toNat x21 * 1)) h20 fun n23 =>
(f_table_Purse_Give p0 p1 p2 p3 n23 (fun h24 =>
(∃ m19, m19 < m18 ∧ I17 (IntKind.wrap .i64 (x21 + (1 : Int))) m19 h24)) h20))))
(Q (0 : Int) n15 h20)))
(newA h16 (.cells #[(.int .i64 n14)] 3) fun b25 h26 =>
(apA 1 8 #[(.int .i64 (0 : Int))] 3 s10 (Sl.mk (some (Addr.mk b25 0 none)) 1 1) h26 fun s27 h28 =>
(f_table_Purse_put p0 p1 p2 p3 n1 (Int.fdiv x11 (2 ^ (18 : Nat))) true true false false false false false false n14 (fun h29 =>
(∃ I30 : Int → Nat → AH → Prop, (∃ m31, I30 (0 : Int) m31 h29) ∧ ∀ x34 : Int, ∀ m31 h33, I30 x34 m31 h33 → 
(bsel (decide (x34 < (512 : Int)))
(f_ram_RAM_Frames p0 (fun n35 h36 =>
(bsel (decide ((IntKind.wrap .i64 (x11 + (IntKind.wrap .i64 (x34 * 2 ^ (9 : Nat))))) < n35))
(f_table_Purse_put p0 p1 p2 p3 n14 x34 true true false false false true true true (IntKind.wrap .i64 (x11 + (IntKind.wrap .i64 (x34 * 2 ^ (9 : Nat))))) (fun h37 =>
(∃ m32, m32 < m31 ∧ I30 (IntKind.wrap .i64 (x34 + (1 : Int))) m32 h37)) h36)
(∃ m8, m8 < m7 ∧ I6 s27 (IntKind.wrap .i64 (x11 + (262144 : Int))) m8 h36))) h33)
(∃ m8, m8 < m7 ∧ I6 s27 (IntKind.wrap .i64 (x11 + (262144 : Int))) m8 h33)))) h28))))) h13)
(Q n1 (0 : Int) h13))) h9))))) h)
def table_Kernel_A : table_Kernel_T := table_Kernel_G table_Purse_Take_A ram_RAM_Frames_A table_Purse_Give_A table_Purse_put_A
def table_Kernel_W (f : table_Kernel_T) : ArS [.agg [.p, .p, .p, (.i .i64)]] EnR := fun p0 p1 p2 p3 K _Kp => f p0 p1 p2 p3 (fun r0 r1 => K (.tuple #[(.int .i64 r0), (.int .i64 r1)]))

/- demesne/table.Root -/
abbrev table_Root_T := Option Addr → Option Addr → Option Addr → Int → Int → (Int → Int → AH → Prop) → AP
def table_Root_G (f_table_Purse_Take : table_Purse_Take_T) (f_table_Purse_put : table_Purse_put_T) (p0 : Option Addr) (p1 : Option Addr) (p2 : Option Addr) (p3 : Int) (p4 : Int) (Q : Int → Int → AH → Prop) (h : AH) : Prop :=
(f_table_Purse_Take p0 p1 p2 p3 (fun n1 n2 h3 =>
(bsel (n2 != (0 : Int))
(Q (0 : Int) n2 h3)
(f_table_Purse_put p0 p1 p2 p3 n1 (256 : Int) true true false false false false false false p4 (fun h4 =>
(Q n1 (0 : Int) h4)) h3))) h)
def table_Root_A : table_Root_T := table_Root_G table_Purse_Take_A table_Purse_put_A
def table_Root_W (f : table_Root_T) : ArS [.agg [.p, .p, .p, (.i .i64)], .c (.i .i64)] EnR := fun p0 p1 p2 p3 p4 K _Kp => f p0 p1 p2 p3 p4 (fun r0 r1 => K (.tuple #[(.int .i64 r0), (.int .i64 r1)]))

/- (*demesne/quota.Tree).Get -/
abbrev quota_Tree_Get_T := Option Addr → Int → (Int → Int → Int → Int → Bool → Bool → AH → Prop) → AP
def quota_Tree_Get_G (f_quota_Tree_at : quota_Tree_at_T) (p0 : Option Addr) (p1 : Int) (Q : Int → Int → Int → Int → Bool → Bool → AH → Prop) (h : AH) : Prop :=
(f_quota_Tree_at p0 p1 (fun pt1 b2 h3 =>
(bsel b2
(onSome pt1 fun a4 =>
(aI .i64 a4 h3 fun n5 =>
(aI .i64 (Addr.add a4 1) h3 fun n6 =>
(aI .i64 (Addr.add a4 2) h3 fun n7 =>
(aI .i64 (Addr.add a4 3) h3 fun n8 =>
(aB (Addr.add a4 4) h3 fun b9 =>
(Q n5 n6 n7 n8 b9 true h3)))))))
(Q (0 : Int) (0 : Int) (0 : Int) (0 : Int) (false : Bool) false h3))) h)
def quota_Tree_Get_A : quota_Tree_Get_T := quota_Tree_Get_G quota_Tree_at_A
def quota_Tree_Get_W (f : quota_Tree_Get_T) : ArS [.c .p, .c (.i .i64)] EnR := fun p0 p1 K _Kp => f p0 p1 (fun r0 r1 r2 r3 r4 r5 => K (.tuple #[(.agg #[(.int .i64 r0), (.int .i64 r1), (.int .i64 r2), (.int .i64 r3), (.bool r4)]), (.bool r5)]))

/- demesne/demesnelaw09.Used -/
abbrev demesnelaw09_Used_T := Option Addr → Option Addr → Option Addr → Int → (Int → AH → Prop) → AP
def demesnelaw09_Used_G (f_quota_Tree_Get : quota_Tree_Get_T) (_p0 : Option Addr) (_p1 : Option Addr) (p2 : Option Addr) (p3 : Int) (Q : Int → AH → Prop) (h : AH) : Prop :=
(f_quota_Tree_Get p2 p3 (fun n1 n2 n3 n4 b5 b6 h7 =>
(Q n3 h7)) h)
def demesnelaw09_Used_A : demesnelaw09_Used_T := demesnelaw09_Used_G quota_Tree_Get_A
def demesnelaw09_Used_W (f : demesnelaw09_Used_T) : ArS [.agg [.p, .p, .p, (.i .i64)]] EnR := fun p0 p1 p2 p3 K _Kp => f p0 p1 p2 p3 (fun r0 => K (.int .i64 r0))

/- demesne/pte.Split -/
abbrev pte_Split_T := Int → (Int → Int → Int → Int → Int → AH → Prop) → AP
def pte_Split_A (p0 : Int) (Q : Int → Int → Int → Int → Int → AH → Prop) (h : AH) : Prop :=
(newA h (.cells #[(.int .i64 (0 : Int)), (.int .i64 (0 : Int)), (.int .i64 (0 : Int)), (.int .i64 (0 : Int))] 110) fun b1 h2 =>
(∃ I3 : Int → Nat → AH → Prop, (∃ m4, I3 (0 : Int) m4 h2) ∧ ∀ x7 : Int, ∀ m4 h6, I3 x7 m4 h6 → 
(bsel (decide (x7 < (4 : Int)))
(bsel (decide ((IntKind.wrap .i64 ((39 : Int) - (IntKind.wrap .i64 ((9 : Int) * x7)))) < 0)) False
(inB x7 4
(aC (Addr.add (Addr.mk b1 0 none) (Int.toNat x7 * 1)) (.int .i64 (IntKind.wrap .i64 (bits .and .u64 (Int.fdiv p0 (2 ^ (min (Int.toNat (IntKind.wrap .i64 ((39 : Int) - (IntKind.wrap .i64 ((9 : Int) * x7))))) 64))) (511 : Int)))) h6 fun h8 =>
(∃ m5, m5 < m4 ∧ I3 (IntKind.wrap .i64 (x7 + (1 : Int))) m5 h8))))
(aI .i64 (Addr.mk b1 0 none) h6 fun n9 =>
(aI .i64 (Addr.add (Addr.mk b1 0 none) 1) h6 fun n10 =>
(aI .i64 (Addr.add (Addr.mk b1 0 none) 2) h6 fun n11 =>
(aI .i64 (Addr.add (Addr.mk b1 0 none) 3) h6 fun n12 =>
(Q n9 n10 n11 n12 (IntKind.wrap .i64 (bits .and .u64 p0 (4095 : Int))) h6))))))))
def pte_Split_W (f : pte_Split_T) : ArS [.c (.i .u64)] EnR := fun p0 K _Kp => f p0 (fun r0 r1 r2 r3 r4 => K (.tuple #[(.agg #[(.int .i64 r0), (.int .i64 r1), (.int .i64 r2), (.int .i64 r3)]), (.int .i64 r4)]))

/- demesne/table.path -/
abbrev table_path_T := Int → (Int → Int → Int → Int → AH → Prop) → AP
def table_path_G (f_pte_Split : pte_Split_T) (p0 : Int) (Q : Int → Int → Int → Int → AH → Prop) (h : AH) : Prop :=
(f_pte_Split (IntKind.wrap .u64 ((IntKind.wrap .u64 p0) * (4096 : Int))) (fun n1 n2 n3 n4 n5 h6 =>
(Q n1 n2 n3 n4 h6)) h)
def table_path_A : table_path_T := table_path_G pte_Split_A
def table_path_W (f : table_path_T) : ArS [.c (.i .i64)] EnR := fun p0 K _Kp => f p0 (fun r0 r1 r2 r3 => K (.agg #[(.int .i64 r0), (.int .i64 r1), (.int .i64 r2), (.int .i64 r3)]))

/- (*demesne/ram.RAM).Load -/
abbrev ram_RAM_Load_T := Option Addr → Int → Int → (Int → Int → AH → Prop) → AP
def ram_RAM_Load_G (f_ram_RAM_check : ram_RAM_check_T) (p0 : Option Addr) (p1 : Int) (p2 : Int) (Q : Int → Int → AH → Prop) (h : AH) : Prop :=
(f_ram_RAM_check p0 p1 p2 (fun n1 h2 =>
(bsel (n1 != (0 : Int))
(Q (0 : Int) n1 h2)
(∃ I3 : Int → Int → Nat → AH → Prop, (∃ m4, I3 (0 : Int) (IntKind.wrap .i64 (p2 - (1 : Int))) m4 h2) ∧ ∀ x7 : Int, ∀ x8 : Int, ∀ m4 h6, I3 x7 x8 m4 h6 → 
(bsel (decide (x8 ≥ (0 : Int)))
(∃ R9 : Int → AH → Prop, (∀ x16 : Int, ∀ h17, R9 x16 h17 → 
(∃ m5, m5 < m4 ∧ I3 x16 (IntKind.wrap .i64 (x8 - (1 : Int))) m5 h17)) ∧
(onSome p0 fun a10 =>
(aM (Addr.add a10 2) h6 fun mp11 =>
(aLk h6 mp11 .i64 (IntKind.wrap .i64 (IntKind.wrap .u64 (Int.tdiv (IntKind.wrap .u64 (p1 + (IntKind.wrap .u64 x8))) (4096 : Int)))) fun o12 =>
(∃ pt13 : Option Addr, ((o12.getD (.pointer none)) : Value) = (.pointer pt13) ∧
(bsel (!pt13.isNone)
(onSome pt13 fun a14 =>
(inB (Int.tmod (IntKind.wrap .u64 (p1 + (IntKind.wrap .u64 x8))) (4096 : Int)) 4096
(aI .u8 (Addr.add a14 (Int.toNat (Int.tmod (IntKind.wrap .u64 (p1 + (IntKind.wrap .u64 x8))) (4096 : Int)) * 1)) h6 fun n15 =>
(R9 (bits .or .u64 (IntKind.wrap .u64 (x7 * 2 ^ (8 : Nat))) (IntKind.wrap .u64 n15)) h6))))
(R9 (IntKind.wrap .u64 (x7 * 2 ^ (8 : Nat))) h6)))))))
(Q x7 (0 : Int) h6))))) h)
def ram_RAM_Load_A : ram_RAM_Load_T := ram_RAM_Load_G ram_RAM_check_A
def ram_RAM_Load_W (f : ram_RAM_Load_T) : ArS [.c .p, .c (.i .u64), .c (.i .i64)] EnR := fun p0 p1 p2 K _Kp => f p0 p1 p2 (fun r0 r1 => K (.tuple #[(.int .u64 r0), (.int .i64 r1)]))

/- demesne/pte.Unpack -/
abbrev pte_Unpack_T := Int → (Bool → Bool → Bool → Bool → Bool → Bool → Bool → Bool → Int → AH → Prop) → AP
def pte_Unpack_G (f_pte_Entry_flags : pte_Entry_flags_T) (f_pte_places : pte_places_T) (p0 : Int) (Q : Bool → Bool → Bool → Bool → Bool → Bool → Bool → Bool → Int → AH → Prop) (h : AH) : Prop :=
(newA h (.cells #[(.bool false), (.bool false), (.bool false), (.bool false), (.bool false), (.bool false), (.bool false), (.bool false), (.int .i64 (0 : Int))] 107) fun b1 h2 =>
(aC (Addr.mk b1 0 none) (.bool false) h2 fun h3 =>
(aC (Addr.add (Addr.mk b1 0 none) 1) (.bool false) h3 fun h4 =>
(aC (Addr.add (Addr.mk b1 0 none) 2) (.bool false) h4 fun h5 =>
(aC (Addr.add (Addr.mk b1 0 none) 3) (.bool false) h5 fun h6 =>
(aC (Addr.add (Addr.mk b1 0 none) 4) (.bool false) h6 fun h7 =>
(aC (Addr.add (Addr.mk b1 0 none) 5) (.bool false) h7 fun h8 =>
(aC (Addr.add (Addr.mk b1 0 none) 6) (.bool false) h8 fun h9 =>
(aC (Addr.add (Addr.mk b1 0 none) 7) (.bool false) h9 fun h10 =>
(aC (Addr.add (Addr.mk b1 0 none) 8) (.int .i64 (IntKind.wrap .i64 (bits .and .u64 (Int.fdiv p0 (2 ^ (12 : Nat))) (1048575 : Int)))) h10 fun h11 =>
(f_pte_Entry_flags (some (Addr.mk b1 0 none)) (fun pt12 pt13 pt14 pt15 pt16 pt17 pt18 pt19 h20 =>
(∃ I21 : Int → Nat → AH → Prop, (∃ m22, I21 (0 : Int) m22 h20) ∧ ∀ x25 : Int, ∀ m22 h24, I21 x25 m22 h24 → 
(bsel (decide (x25 < (8 : Int)))
(inB x25 8
(geP [(.pointer pt12), (.pointer pt13), (.pointer pt14), (.pointer pt15), (.pointer pt16), (.pointer pt17), (.pointer pt18), (.pointer pt19)] (Int.toNat x25) fun n26 =>
(f_pte_places (fun n27 n28 n29 n30 n31 n32 n33 n34 h35 =>
(inB x25 8
(geI .i64 [(.int .i64 n27), (.int .i64 n28), (.int .i64 n29), (.int .i64 n30), (.int .i64 n31), (.int .i64 n32), (.int .i64 n33), (.int .i64 n34)] (Int.toNat x25) fun n36 =>
(bsel (decide (n36 < 0)) False
(onSome n26 fun a37 =>
(aC a37 (.bool ((bits .and .u64 (Int.fdiv p0 (2 ^ (min (Int.toNat n36) 64))) (1 : Int)) == (1 : Int))) h35 fun h38 =>
(∃ m23, m23 < m22 ∧ I21 (IntKind.wrap .i64 (x25 + (1 : Int))) m23 h38))))))) h24)))
(aB (Addr.mk b1 0 none) h24 fun b39 =>
(aB (Addr.add (Addr.mk b1 0 none) 1) h24 fun b40 =>
(aB (Addr.add (Addr.mk b1 0 none) 2) h24 fun b41 =>
(aB (Addr.add (Addr.mk b1 0 none) 3) h24 fun b42 =>
(aB (Addr.add (Addr.mk b1 0 none) 4) h24 fun b43 =>
(aB (Addr.add (Addr.mk b1 0 none) 5) h24 fun b44 =>
(aB (Addr.add (Addr.mk b1 0 none) 6) h24 fun b45 =>
(aB (Addr.add (Addr.mk b1 0 none) 7) h24 fun b46 =>
(aI .i64 (Addr.add (Addr.mk b1 0 none) 8) h24 fun n47 =>
(Q b39 b40 b41 b42 b43 b44 b45 b46 n47 h24))))))))))))) h11)))))))))))
def pte_Unpack_A : pte_Unpack_T := pte_Unpack_G pte_Entry_flags_A pte_places_A
def pte_Unpack_W (f : pte_Unpack_T) : ArS [.c (.i .u64)] EnR := fun p0 K _Kp => f p0 (fun r0 r1 r2 r3 r4 r5 r6 r7 r8 => K (.agg #[(.bool r0), (.bool r1), (.bool r2), (.bool r3), (.bool r4), (.bool r5), (.bool r6), (.bool r7), (.int .i64 r8)]))

/- (demesne/table.Purse).get -/
abbrev table_Purse_get_T := Option Addr → Option Addr → Option Addr → Int → Int → Int → (Bool → Bool → Bool → Bool → Bool → Bool → Bool → Bool → Int → AH → Prop) → AP
def table_Purse_get_G (f_table_place : table_place_T) (f_ram_RAM_Load : ram_RAM_Load_T) (f_pte_Unpack : pte_Unpack_T) (p0 : Option Addr) (_p1 : Option Addr) (_p2 : Option Addr) (_p3 : Int) (p4 : Int) (p5 : Int) (Q : Bool → Bool → Bool → Bool → Bool → Bool → Bool → Bool → Int → AH → Prop) (h : AH) : Prop :=
(f_table_place p4 p5 (fun n1 h2 =>
(f_ram_RAM_Load p0 n1 (8 : Int) (fun n3 n4 h5 =>
(f_pte_Unpack n3 (fun b6 b7 b8 b9 b10 b11 b12 b13 n14 h15 =>
(Q b6 b7 b8 b9 b10 b11 b12 b13 n14 h15)) h5)) h2)) h)
def table_Purse_get_A : table_Purse_get_T := table_Purse_get_G table_place_A ram_RAM_Load_A pte_Unpack_A
def table_Purse_get_W (f : table_Purse_get_T) : ArS [.agg [.p, .p, .p, (.i .i64)], .c (.i .i64), .c (.i .i64)] EnR := fun p0 p1 p2 p3 p4 p5 K _Kp => f p0 p1 p2 p3 p4 p5 (fun r0 r1 r2 r3 r4 r5 r6 r7 r8 => K (.agg #[(.bool r0), (.bool r1), (.bool r2), (.bool r3), (.bool r4), (.bool r5), (.bool r6), (.bool r7), (.int .i64 r8)]))

/- (demesne/table.Purse).down -/
abbrev table_Purse_down_T := Option Addr → Option Addr → Option Addr → Int → Int → Int → (Sl → AH → Prop) → AP
def table_Purse_down_G (f_table_path : table_path_T) (f_table_Purse_get : table_Purse_get_T) (p0 : Option Addr) (p1 : Option Addr) (p2 : Option Addr) (p3 : Int) (p4 : Int) (p5 : Int) (Q : Sl → AH → Prop) (h : AH) : Prop :=
(f_table_path p5 (fun n1 n2 n3 n4 h5 =>
(newA h5 (.cells #[(.int .i64 (0 : Int)), (.int .i64 (0 : Int)), (.int .i64 (0 : Int)), (.int .i64 (0 : Int))] 110) fun b6 h7 =>
(aC (Addr.mk b6 0 none) (.int .i64 n1) h7 fun h8 =>
(aC (Addr.add (Addr.mk b6 0 none) 1) (.int .i64 n2) h8 fun h9 =>
(aC (Addr.add (Addr.mk b6 0 none) 2) (.int .i64 n3) h9 fun h10 =>
(aC (Addr.add (Addr.mk b6 0 none) 3) (.int .i64 n4) h10 fun h11 =>
(newA h11 (.cells #[(.int .i64 p4)] 3) fun b12 h13 =>
(∃ R14 : Sl → AH → Prop, (∀ s38 : Sl, ∀ h39, R14 s38 h39 → 
(Q s38 h39)) ∧
(∃ I15 : Sl → Int → Nat → AH → Prop, (∃ m16, I15 (Sl.mk (some (Addr.mk b12 0 none)) 1 1) (0 : Int) m16 h13) ∧ ∀ s19 : Sl, ∀ x20 : Int, ∀ m16 h18, I15 s19 x20 m16 h18 → 
(bsel (decide (x20 < (3 : Int)))
(onSome s19.a fun a21 =>
(inB x20 s19.len
(inB x20 4
(aI .i64 (Addr.add a21 (Int.toNat x20 * 1)) h18 fun n22 =>
(aI .i64 (Addr.add (Addr.mk b6 0 none) (Int.toNat x20 * 1)) h18 fun n23 =>
(f_table_Purse_get p0 p1 p2 p3 n22 n23 (fun b24 b25 b26 b27 b28 b29 b30 b31 n32 h33 =>
(bsel (!b24)
(R14 s19 h33)
(newA h33 (.cells #[(.int .i64 n32)] 3) fun b34 h35 =>
(apA 1 8 #[(.int .i64 (0 : Int))] 3 s19 (Sl.mk (some (Addr.mk b34 0 none)) 1 1) h35 fun s36 h37 =>
(∃ m17, m17 < m16 ∧ I15 s36 (IntKind.wrap .i64 (x20 + (1 : Int))) m17 h37))))) h18))))))
(R14 s19 h18))))))))))) h)
def table_Purse_down_A : table_Purse_down_T := table_Purse_down_G table_path_A table_Purse_get_A
def table_Purse_down_W (f : table_Purse_down_T) : ArS [.agg [.p, .p, .p, (.i .i64)], .c (.i .i64), .c (.i .i64)] EnR := fun p0 p1 p2 p3 p4 p5 K _Kp => f p0 p1 p2 p3 p4 p5 (fun r0 => K (.slice r0.a r0.len r0.cap))

/- demesne/table.leaf -/
abbrev table_leaf_T := Int → Bool → Bool → Bool → (Bool → Bool → Bool → Bool → Bool → Bool → Bool → Bool → Int → AH → Prop) → AP
def table_leaf_A (p0 : Int) (p1 : Bool) (p2 : Bool) (p3 : Bool) (Q : Bool → Bool → Bool → Bool → Bool → Bool → Bool → Bool → Int → AH → Prop) (h : AH) : Prop :=
(Q (true : Bool) p1 p2 (false : Bool) (false : Bool) (false : Bool) (false : Bool) ((!p3) : Bool) p0 h)
def table_leaf_W (f : table_leaf_T) : ArS [.c (.i .i64), .agg [.b, .b, .b]] EnR := fun p0 p1 p2 p3 K _Kp => f p0 p1 p2 p3 (fun r0 r1 r2 r3 r4 r5 r6 r7 r8 => K (.agg #[(.bool r0), (.bool r1), (.bool r2), (.bool r3), (.bool r4), (.bool r5), (.bool r6), (.bool r7), (.int .i64 r8)]))

/- demesne/table.Map -/
abbrev table_Map_T := Option Addr → Option Addr → Option Addr → Int → Int → Int → Int → Bool → Bool → Bool → (Int → AH → Prop) → AP
def table_Map_G (f_table_path : table_path_T) (f_table_Purse_down : table_Purse_down_T) (f_table_Purse_get : table_Purse_get_T) (f_table_Purse_Take : table_Purse_Take_T) (f_table_Purse_Give : table_Purse_Give_T) (f_table_Purse_put : table_Purse_put_T) (f_table_leaf : table_leaf_T) (p0 : Option Addr) (p1 : Option Addr) (p2 : Option Addr) (p3 : Int) (p4 : Int) (p5 : Int) (p6 : Int) (p7 : Bool) (p8 : Bool) (p9 : Bool) (Q : Int → AH → Prop) (h : AH) : Prop :=
(∃ R1 : AH → Prop, (∀ h2, R1 h2 → 
(f_table_path p5 (fun n3 n4 n5 n6 h7 =>
(f_table_Purse_down p0 p1 p2 p3 p4 p5 (fun s8 h9 =>
(newA h9 (.cells #[(.int .i64 (0 : Int)), (.int .i64 (0 : Int)), (.int .i64 (0 : Int)), (.int .i64 (0 : Int))] 110) fun b10 h11 =>
(aC (Addr.mk b10 0 none) (.int .i64 n3) h11 fun h12 =>
(aC (Addr.add (Addr.mk b10 0 none) 1) (.int .i64 n4) h12 fun h13 =>
(aC (Addr.add (Addr.mk b10 0 none) 2) (.int .i64 n5) h13 fun h14 =>
(aC (Addr.add (Addr.mk b10 0 none) 3) (.int .i64 n6) h14 fun h15 =>
(∃ R16 : AH → Prop, (∀ h30, R16 h30 → 
(∃ I31 : Sl → Int → Nat → AH → Prop, (∃ m32, I31 Sl.nil (0 : Int) m32 h30) ∧ ∀ s35 : Sl, ∀ x36 : Int, ∀ m32 h34, I31 s35 x36 m32 h34 → 
(bsel (decide (x36 < (IntKind.wrap .i64 ((4 : Int) - (Int.ofNat s8.len)))))
(f_table_Purse_Take p0 p1 p2 p3 (fun n37 n38 h39 =>
(bsel (n38 != (0 : Int))
(∃ I40 : Int → Nat → AH → Prop, (∃ m41, I40 (0 : Int) m41 h39) ∧ ∀ x44 : Int, ∀ m41 h43, I40 x44 m41 h43 → 
(bsel (decide (x44 < (Int.ofNat s35.len)))
(onSome s35.a fun a45 =>
(inB x44 s35.len
(aI .i64 (Addr.add a45 (Int.toNat x44 * 1)) h43 fun n46 =>
(f_table_Purse_Give p0 p1 p2 p3 n46 (fun h47 =>
(∃ m42, m42 < m41 ∧ I40 (IntKind.wrap .i64 (x44 + (1 : Int))) m42 h47)) h43))))
(Q n38 h43)))
(newA h39 (.cells #[(.int .i64 n37)] 3) fun b48 h49 =>
(apA 1 8 #[(.int .i64 (0 : Int))] 3 s35 (Sl.mk (some (Addr.mk b48 0 none)) 1 1) h49 fun s50 h51 =>
(∃ m33, m33 < m32 ∧ I31 s50 (IntKind.wrap .i64 (x36 + (1 : Int))) m33 h51))))) h34)
(∃ I52 : Sl → Int → Nat → AH → Prop, (∃ m53, I52 s8 (0 : Int) m53 h34) ∧ ∀ s56 : Sl, ∀ x57 : Int, ∀ m53 h55, I52 s56 x57 m53 h55 → 
(bsel (decide (x57 < (Int.ofNat s35.len)))
(onSome s35.a fun a58 =>
(inB x57 s35.len
(aI .i64 (Addr.add a58 (Int.toNat x57 * 1)) h55 fun n59 =>
(onSome s56.a fun a60 =>
(inB (IntKind.wrap .i64 ((Int.ofNat s56.len) - (1 : Int))) s56.len
(aI .i64 (Addr.add a60 (Int.toNat (IntKind.wrap .i64 ((Int.ofNat s56.len) - (1 : Int))) * 1)) h55 fun n61 =>
(inB (IntKind.wrap .i64 ((Int.ofNat s56.len) - (1 : Int))) 4
(aI .i64 (Addr.add (Addr.mk b10 0 none) (Int.toNat (IntKind.wrap .i64 ((Int.ofNat s56.len) - (1 : Int))) * 1)) h55 fun n62 =>
(f_table_Purse_put p0 p1 p2 p3 n61 n62 true true true false false false false false n59 (fun h63 =>
(newA h63 (.cells #[(.int .i64 n59)] 3) fun b64 h65 =>
(apA 1 8 #[(.int .i64 (0 : Int))] 3 s56 (Sl.mk (some (Addr.mk b64 0 none)) 1 1) h65 fun s66 h67 =>
(∃ m54, m54 < m53 ∧ I52 s66 (IntKind.wrap .i64 (x57 + (1 : Int))) m54 h67)))) h55)))))))))
(onSome s56.a fun a68 =>
(inB (3 : Int) s56.len
(aI .i64 (Addr.add a68 3) h55 fun n69 =>
(aI .i64 (Addr.add (Addr.mk b10 0 none) 3) h55 fun n70 =>
(f_table_leaf p6 p7 p8 p9 (fun b71 b72 b73 b74 b75 b76 b77 b78 n79 h80 =>
((aI .i64 (Addr.add (Addr.mk b10 0 none) 3) h80 fun n81 =>
(((.int .i64 n81) : Value) = (.int .i64 n70))) ∧
((aI .i64 (Addr.add a68 3) h80 fun n82 =>
(((.int .i64 n82) : Value) = (.int .i64 n69))) ∧
(f_table_Purse_put p0 p1 p2 p3 n69 n70 b71 b72 b73 b74 b75 b76 b77 b78 n79 (fun h83 =>
(Q (0 : Int) h83)) h80)))) h55)))))))))) ∧
(bsel ((Int.ofNat s8.len) == (4 : Int))
(onSome s8.a fun a17 =>
(inB (3 : Int) s8.len
(aI .i64 (Addr.add a17 3) h15 fun n18 =>
(aI .i64 (Addr.add (Addr.mk b10 0 none) 3) h15 fun n19 =>
(f_table_Purse_get p0 p1 p2 p3 n18 n19 (fun b20 b21 b22 b23 b24 b25 b26 b27 n28 h29 =>
(bsel b20
(Q (6 : Int) h29)
(R16 h29))) h15)))))
(R16 h15))))))))) h7)) h2)) ∧
(bsel (decide (p5 < (0 : Int)))
(Q (1 : Int) h)
(bsel (decide (p5 ≥ (34359738368 : Int)))
(Q (1 : Int) h)
(bsel (decide (p6 < (0 : Int)))
(Q (1 : Int) h)
(bsel (decide (p6 ≥ (1048576 : Int)))
(Q (1 : Int) h)
(R1 h))))))
def table_Map_A : table_Map_T := table_Map_G table_path_A table_Purse_down_A table_Purse_get_A table_Purse_Take_A table_Purse_Give_A table_Purse_put_A table_leaf_A
def table_Map_W (f : table_Map_T) : ArS [.agg [.p, .p, .p, (.i .i64)], .c (.i .i64), .c (.i .i64), .c (.i .i64), .agg [.b, .b, .b]] EnR := fun p0 p1 p2 p3 p4 p5 p6 p7 p8 p9 K _Kp => f p0 p1 p2 p3 p4 p5 p6 p7 p8 p9 (fun r0 => K (.int .i64 r0))

/- demesne/table.Query -/
abbrev table_Query_T := Option Addr → Option Addr → Option Addr → Int → Int → Int → (Int → Bool → Bool → Bool → Bool → AH → Prop) → AP
def table_Query_G (f_table_Purse_down : table_Purse_down_T) (f_table_path : table_path_T) (f_table_Purse_get : table_Purse_get_T) (p0 : Option Addr) (p1 : Option Addr) (p2 : Option Addr) (p3 : Int) (p4 : Int) (p5 : Int) (Q : Int → Bool → Bool → Bool → Bool → AH → Prop) (h : AH) : Prop :=
(∃ R1 : Bool → Bool → Bool → AH → Prop, (∀ c2 : Bool, ∀ c3 : Bool, ∀ c4 : Bool, ∀ h5, R1 c2 c3 c4 h5 → 
(f_table_Purse_down p0 p1 p2 p3 p4 p5 (fun s6 h7 =>
(bsel (decide ((Int.ofNat s6.len) < (4 : Int)))
(Q (0 : Int) (false : Bool) (false : Bool) (false : Bool) false h7)
(onSome s6.a fun a8 =>
(inB (3 : Int) s6.len
(aI .i64 (Addr.add a8 3) h7 fun n9 =>
(f_table_path p5 (fun n10 n11 n12 n13 h14 =>
((aI .i64 (Addr.add a8 3) h14 fun n15 =>
(((.int .i64 n15) : Value) = (.int .i64 n9))) ∧
(geI .i64 [(.int .i64 n10), (.int .i64 n11), (.int .i64 n12), (.int .i64 n13)] 3 fun n16 =>
(f_table_Purse_get p0 p1 p2 p3 n9 n16 (fun b17 b18 b19 b20 b21 b22 b23 b24 n25 h26 =>
(bsel (!b17)
(Q (0 : Int) (false : Bool) (false : Bool) (false : Bool) false h26)
(Q n25 b18 b19 ((!b24) : Bool) true h26))) h14)))) h7)))))) h5)) ∧
(bsel (decide (p5 < (0 : Int)))
(Q (0 : Int) (false : Bool) (false : Bool) (false : Bool) false h)
(bsel (decide (p5 ≥ (34359738368 : Int)))
(Q (0 : Int) (false : Bool) (false : Bool) (false : Bool) false h)
(R1 false false false h))))
def table_Query_A : table_Query_T := table_Query_G table_Purse_down_A table_path_A table_Purse_get_A
def table_Query_W (f : table_Query_T) : ArS [.agg [.p, .p, .p, (.i .i64)], .c (.i .i64), .c (.i .i64)] EnR := fun p0 p1 p2 p3 p4 p5 K _Kp => f p0 p1 p2 p3 p4 p5 (fun r0 r1 r2 r3 r4 => K (.tuple #[(.int .i64 r0), (.agg #[(.bool r1), (.bool r2), (.bool r3)]), (.bool r4)]))

/- demesne/demesnelaw09.awake -/
abbrev demesnelaw09_awake_T := (Bool → AH → Prop) → AP
def demesnelaw09_awake_G (f_demesnelaw09_Purse : demesnelaw09_Purse_T) (f_table_Kernel : table_Kernel_T) (f_table_Root : table_Root_T) (f_demesnelaw09_Used : demesnelaw09_Used_T) (f_table_Map : table_Map_T) (f_table_Query : table_Query_T) (Q : Bool → AH → Prop) (h : AH) : Prop :=
(f_demesnelaw09_Purse (20 : Int) (20 : Int) (fun pt1 pt2 pt3 n4 b5 h6 =>
(bsel (!b5)
(Q false h6)
(f_table_Kernel pt1 pt2 pt3 n4 (fun n7 n8 h9 =>
(f_table_Root pt1 pt2 pt3 n4 n7 (fun n10 n11 h12 =>
(bsel (n8 != (0 : Int))
(Q false h12)
(bsel (n11 != (0 : Int))
(Q false h12)
(f_demesnelaw09_Used pt1 pt2 pt3 n4 (fun n13 h14 =>
(bsel (n13 != (3 : Int))
(Q false h14)
(f_table_Map pt1 pt2 pt3 n4 n10 (0 : Int) (5 : Int) false true false (fun n15 h16 =>
(bsel (n15 != (0 : Int))
(Q false h16)
(f_demesnelaw09_Used pt1 pt2 pt3 n4 (fun n17 h18 =>
(bsel (n17 != (6 : Int))
(Q false h18)
(f_table_Query pt1 pt2 pt3 n4 n10 (0 : Int) (fun n19 b20 b21 b22 b23 h24 =>
(bsel b23
(bsel (n19 == (5 : Int))
(Q ((b20 == false) && ((b21 == true) && ((b22 == false) && true))) h24)
(Q false h24))
(Q false h24))) h18))) h16))) h14))) h12)))) h9)) h6))) h)
def demesnelaw09_awake_A : demesnelaw09_awake_T := demesnelaw09_awake_G demesnelaw09_Purse_A table_Kernel_A table_Root_A demesnelaw09_Used_A table_Map_A table_Query_A
def demesnelaw09_awake_W (f : demesnelaw09_awake_T) : ArS [] EnR := fun  K _Kp => f  (fun r0 => K (.bool r0))

/- (*demesne/buddy.Buddy).Free -/
abbrev buddy_Buddy_Free_T := Option Addr → (Int → AH → Prop) → AP
def buddy_Buddy_Free_A (p0 : Option Addr) (Q : Int → AH → Prop) (h : AH) : Prop :=
(onSome p0 fun a1 =>
(aI .i64 (Addr.add a1 12) h fun n2 =>
(Q n2 h)))
def buddy_Buddy_Free_W (f : buddy_Buddy_Free_T) : ArS [.c .p] EnR := fun p0 K _Kp => f p0 (fun r0 => K (.int .i64 r0))

/- demesne/demesnelaw09.TableKernel -/
abbrev demesnelaw09_TableKernel_T := Int → Int → (Bool → AH → Prop) → AP
def demesnelaw09_TableKernel_G (f_demesnelaw09_awake : demesnelaw09_awake_T) (f_ram_New : ram_New_T) (f_buddy_New : buddy_New_T) (f_quota_New : quota_New_T) (f_table_Kernel : table_Kernel_T) (f_demesnelaw09_Used : demesnelaw09_Used_T) (f_buddy_Buddy_Free : buddy_Buddy_Free_T) (p0 : Int) (p1 : Int) (Q : Bool → AH → Prop) (h : AH) : Prop :=
(∃ R1 : AH → Prop, (∀ h10, R1 h10 → 
(f_ram_New p0 Sl.nil (fun pt11 n12 h13 =>
(newA h13 (.cells #[(.int .i64 (1 : Int)), (.int .i64 (20 : Int))] 31) fun b14 h15 =>
(f_buddy_New (Sl.mk (some (Addr.mk b14 0 none)) 1 1) (fun pt16 n17 h18 =>
(f_quota_New p1 (fun pt19 n20 h21 =>
(∃ R22 : AH → Prop, (∀ h23, R22 h23 → 
(f_table_Kernel pt11 pt16 pt19 (0 : Int) (fun n24 n25 h26 =>
(bsel (decide (p1 < (IntKind.wrap .i64 ((1 : Int) + (Int.fdiv (IntKind.wrap .i64 ((IntKind.wrap .i64 (p0 + (262144 : Int))) - (1 : Int))) (2 ^ (18 : Nat)))))))
(f_demesnelaw09_awake (fun b27 h28 =>
(bsel b27
(bsel (n25 == (8 : Int))
(f_demesnelaw09_Used pt11 pt16 pt19 (0 : Int) (fun n29 h30 =>
(bsel (n29 == (0 : Int))
(f_buddy_Buddy_Free pt16 (fun n31 h32 =>
(Q (n31 == (19 : Int)) h32)) h30)
(Q false h30))) h28)
(Q false h28))
(Q false h28))) h26)
(f_demesnelaw09_awake (fun b33 h34 =>
(bsel b33
(bsel (n25 == (0 : Int))
(f_demesnelaw09_Used pt11 pt16 pt19 (0 : Int) (fun n35 h36 =>
(bsel (n35 == (IntKind.wrap .i64 ((1 : Int) + (Int.fdiv (IntKind.wrap .i64 ((IntKind.wrap .i64 (p0 + (262144 : Int))) - (1 : Int))) (2 ^ (18 : Nat))))))
(f_buddy_Buddy_Free pt16 (fun n37 h38 =>
(Q (n37 == (IntKind.wrap .i64 ((19 : Int) - (IntKind.wrap .i64 ((1 : Int) + (Int.fdiv (IntKind.wrap .i64 ((IntKind.wrap .i64 (p0 + (262144 : Int))) - (1 : Int))) (2 ^ (18 : Nat)))))))) h38)) h36)
(Q false h36))) h34)
(Q false h34))
(Q false h34))) h26))) h23)) ∧
(bsel (n12 != (0 : Int))
(Q false h21)
(bsel (n17 != (0 : Int))
(Q false h21)
(bsel (n20 != (0 : Int))
(Q false h21)
(bsel pt11.isNone
(Q false h21)
(bsel pt16.isNone
(Q false h21)
(bsel pt19.isNone
(Q false h21)
(R22 h21))))))))) h18)) h15))) h10)) ∧
(bsel (decide (p0 < (20 : Int)))
(f_demesnelaw09_awake (fun b2 h3 =>
(Q b2 h3)) h)
(bsel (decide (p0 > (600000 : Int)))
(f_demesnelaw09_awake (fun b4 h5 =>
(Q b4 h5)) h)
(bsel (decide (p1 < (0 : Int)))
(f_demesnelaw09_awake (fun b6 h7 =>
(Q b6 h7)) h)
(bsel (decide (p1 > (1000 : Int)))
(f_demesnelaw09_awake (fun b8 h9 =>
(Q b8 h9)) h)
(R1 h))))))
def demesnelaw09_TableKernel_A : demesnelaw09_TableKernel_T := demesnelaw09_TableKernel_G demesnelaw09_awake_A ram_New_A buddy_New_A quota_New_A table_Kernel_A demesnelaw09_Used_A buddy_Buddy_Free_A
def demesnelaw09_TableKernel_W (f : demesnelaw09_TableKernel_T) : ArS [.c (.i .i64), .c (.i .i64)] EnR := fun p0 p1 K _Kp => f p0 p1 (fun r0 => K (.bool r0))

/- demesne/table.Protect -/
abbrev table_Protect_T := Option Addr → Option Addr → Option Addr → Int → Int → Int → Bool → Bool → Bool → (Int → AH → Prop) → AP
def table_Protect_G (f_table_Query : table_Query_T) (f_table_Purse_down : table_Purse_down_T) (f_table_path : table_path_T) (f_table_leaf : table_leaf_T) (f_table_Purse_put : table_Purse_put_T) (p0 : Option Addr) (p1 : Option Addr) (p2 : Option Addr) (p3 : Int) (p4 : Int) (p5 : Int) (p6 : Bool) (p7 : Bool) (p8 : Bool) (Q : Int → AH → Prop) (h : AH) : Prop :=
(f_table_Query p0 p1 p2 p3 p4 p5 (fun n1 b2 b3 b4 b5 h6 =>
(bsel (!b5)
(Q (5 : Int) h6)
(f_table_Purse_down p0 p1 p2 p3 p4 p5 (fun s7 h8 =>
(onSome s7.a fun a9 =>
(inB (3 : Int) s7.len
(aI .i64 (Addr.add a9 3) h8 fun n10 =>
(f_table_path p5 (fun n11 n12 n13 n14 h15 =>
((aI .i64 (Addr.add a9 3) h15 fun n16 =>
(((.int .i64 n16) : Value) = (.int .i64 n10))) ∧
(geI .i64 [(.int .i64 n11), (.int .i64 n12), (.int .i64 n13), (.int .i64 n14)] 3 fun n17 =>
(f_table_leaf n1 p6 p7 p8 (fun b18 b19 b20 b21 b22 b23 b24 b25 n26 h27 =>
((aI .i64 (Addr.add a9 3) h27 fun n28 =>
(((.int .i64 n28) : Value) = (.int .i64 n10))) ∧
(f_table_Purse_put p0 p1 p2 p3 n10 n17 b18 b19 b20 b21 b22 b23 b24 b25 n26 (fun h29 =>
(Q (0 : Int) h29)) h27))) h15)))) h8))))) h6))) h)
def table_Protect_A : table_Protect_T := table_Protect_G table_Query_A table_Purse_down_A table_path_A table_leaf_A table_Purse_put_A
def table_Protect_W (f : table_Protect_T) : ArS [.agg [.p, .p, .p, (.i .i64)], .c (.i .i64), .c (.i .i64), .agg [.b, .b, .b]] EnR := fun p0 p1 p2 p3 p4 p5 p6 p7 p8 K _Kp => f p0 p1 p2 p3 p4 p5 p6 p7 p8 (fun r0 => K (.int .i64 r0))

/- demesne/demesnelaw09.TableUses -/
abbrev demesnelaw09_TableUses_T := Sl → Int → Bool → Bool → Bool → (Bool → AH → Prop) → AP
def demesnelaw09_TableUses_G (f_demesnelaw09_Purse : demesnelaw09_Purse_T) (f_table_Kernel : table_Kernel_T) (f_table_Root : table_Root_T) (f_table_Map : table_Map_T) (f_table_Query : table_Query_T) (f_demesnelaw09_Used : demesnelaw09_Used_T) (f_table_Protect : table_Protect_T) (f_demesnelaw09_awake : demesnelaw09_awake_T) (p0 : Sl) (p1 : Int) (p2 : Bool) (p3 : Bool) (p4 : Bool) (Q : Bool → AH → Prop) (h : AH) : Prop :=
(f_demesnelaw09_Purse (90 : Int) (90 : Int) (fun pt1 pt2 pt3 n4 b5 h6 =>
(bsel (!b5)
(Q false h6)
(f_table_Kernel pt1 pt2 pt3 n4 (fun n7 n8 h9 =>
(f_table_Root pt1 pt2 pt3 n4 n7 (fun n10 n11 h12 =>
(∃ R13 : AH → Prop, (∀ h14, R13 h14 → 
(∃ R15 : AH → Prop, (∀ h31, R15 h31 → 
(f_table_Query pt1 pt2 pt3 n4 n10 p1 (fun n32 b33 b34 b35 b36 h37 =>
(f_demesnelaw09_Used pt1 pt2 pt3 n4 (fun n38 h39 =>
(f_table_Protect pt1 pt2 pt3 n4 n10 p1 p2 p3 p4 (fun n40 h41 =>
(f_table_Query pt1 pt2 pt3 n4 n10 p1 (fun n42 b43 b44 b45 b46 h47 =>
(bsel (!((n40 == (0 : Int)) == b36))
(Q false h47)
(bsel (!(b46 == b36))
(Q false h47)
(bsel (n32 != n42)
(Q false h47)
(f_demesnelaw09_Used pt1 pt2 pt3 n4 (fun n48 h49 =>
(bsel (n48 != n38)
(Q false h49)
(f_demesnelaw09_awake (fun b50 h51 =>
(bsel b50
(bsel b36
(bsel ((b43 == p2) && ((b44 == p3) && ((b45 == p4) && true)))
(Q true h51)
(bsel (!b36)
(Q ((b43 == b33) && ((b44 == b34) && ((b45 == b35) && true))) h51)
(Q false h51)))
(bsel (!b36)
(Q ((b43 == b33) && ((b44 == b34) && ((b45 == b35) && true))) h51)
(Q false h51)))
(Q false h51))) h49))) h47))))) h41)) h39)) h37)) h31)) ∧
(∃ I16 : Int → Nat → AH → Prop, (∃ m17, I16 (0 : Int) m17 h14) ∧ ∀ x20 : Int, ∀ m17 h19, I16 x20 m17 h19 → 
(bsel (decide (x20 < (Int.ofNat p0.len)))
(bsel (decide (x20 < (20 : Int)))
(onSome p0.a fun a21 =>
(inB x20 p0.len
(aI .i64 (Addr.add (Addr.add a21 (Int.toNat x20 * 6)) 1) h19 fun n22 =>
(onSome p0.a fun a23 =>
(inB x20 p0.len
(aI .i64 (Addr.add (Addr.add a23 (Int.toNat x20 * 6)) 2) h19 fun n24 =>
(onSome p0.a fun a25 =>
(inB x20 p0.len
(aB (Addr.add (Addr.add a25 (Int.toNat x20 * 6)) 3) h19 fun b26 =>
(aB (Addr.add (Addr.add (Addr.add a25 (Int.toNat x20 * 6)) 3) 1) h19 fun b27 =>
(aB (Addr.add (Addr.add (Addr.add a25 (Int.toNat x20 * 6)) 3) 2) h19 fun b28 =>
(f_table_Map pt1 pt2 pt3 n4 n10 n22 n24 b26 b27 b28 (fun n29 h30 =>
(∃ m18, m18 < m17 ∧ I16 (IntKind.wrap .i64 (x20 + (1 : Int))) m18 h30)) h19))))))))))))
(R15 h19))
(R15 h19))))) ∧
(bsel (n8 != (0 : Int))
(Q false h12)
(bsel (n11 != (0 : Int))
(Q false h12)
(R13 h12))))) h9)) h6))) h)
def demesnelaw09_TableUses_A : demesnelaw09_TableUses_T := demesnelaw09_TableUses_G demesnelaw09_Purse_A table_Kernel_A table_Root_A table_Map_A table_Query_A demesnelaw09_Used_A table_Protect_A demesnelaw09_awake_A
def demesnelaw09_TableUses_W (f : demesnelaw09_TableUses_T) : ArS [.c .s, .c (.i .i64), .agg [.b, .b, .b]] EnR := fun p0 p1 p2 p3 p4 K _Kp => f p0 p1 p2 p3 p4 (fun r0 => K (.bool r0))

/- demesne/table.Pages$1 -/
abbrev table_Pages_1_T := Int → Option Addr → (AH → Prop) → AP
def table_Pages_1_A (p0 : Int) (p1 : Option Addr) (Q : AH → Prop) (h : AH) : Prop :=
(onSome p1 fun a1 =>
(aS a1 h fun s2 =>
(newA h (.cells #[(.int .i64 p0)] 3) fun b3 h4 =>
(apA 1 8 #[(.int .i64 (0 : Int))] 3 s2 (Sl.mk (some (Addr.mk b3 0 none)) 1 1) h4 fun s5 h6 =>
(onSome p1 fun a7 =>
(aC a7 (.slice s5.a s5.len s5.cap) h6 fun h8 =>
(Q h8)))))))
def table_Pages_1_W (f : table_Pages_1_T) : ArS [.c (.i .i64), .c .p] EnR := fun p0 p1 K _Kp => f p0 p1 (K (.tuple #[]))

/- (demesne/table.Purse).walk -/
abbrev table_Purse_walk_T := Option Addr → Option Addr → Option Addr → Int → Int → Int → Int → Option Addr → (AH → Prop) → AP
def table_Purse_walk_G (f_self : table_Purse_walk_T) (f_table_Purse_get : table_Purse_get_T) (f_table_Pages_1 : table_Pages_1_T) (p0 : Option Addr) (p1 : Option Addr) (p2 : Option Addr) (p3 : Int) (p4 : Int) (p5 : Int) (p6 : Int) (p7 : Option Addr) (Q : AH → Prop) (h : AH) : Prop :=
(∃ I1 : Int → Nat → AH → Prop, (∃ m2, I1 (0 : Int) m2 h) ∧ ∀ x5 : Int, ∀ m2 h4, I1 x5 m2 h4 → 
(bsel (decide (x5 < (512 : Int)))
(∃ R6 : AH → Prop, (∀ h21, R6 h21 → 
(∃ m3, m3 < m2 ∧ I1 (IntKind.wrap .i64 (x5 + (1 : Int))) m3 h21)) ∧
(∃ R7 : AH → Prop, (∀ h8, R7 h8 → 
(f_table_Purse_get p0 p1 p2 p3 p4 x5 (fun b9 b10 b11 b12 b13 b14 b15 b16 n17 h18 =>
(bsel (!b9)
(R6 h18)
(bsel (p5 == (1 : Int))
(f_table_Pages_1 (bits .or .i64 (IntKind.wrap .i64 (p6 * 2 ^ (9 : Nat))) x5) p7 (fun h19 =>
(R6 h19)) h18)
(f_self p0 p1 p2 p3 n17 (IntKind.wrap .i64 (p5 - (1 : Int))) (bits .or .i64 (IntKind.wrap .i64 (p6 * 2 ^ (9 : Nat))) x5) p7 (fun h20 =>
(R6 h20)) h18)))) h8)) ∧
(bsel (p5 == (4 : Int))
(bsel (decide (x5 ≥ (256 : Int)))
(Q h4)
(R7 h4))
(R7 h4))))
(Q h4)))
def table_Purse_walk_A : Nat → table_Purse_walk_T
  | 0 => fun _ _ _ _ _ _ _ _ _ _ => False
  | k + 1 => table_Purse_walk_G (table_Purse_walk_A k) table_Purse_get_A table_Pages_1_A
def table_Purse_walk_R : table_Purse_walk_T := fun x0 x1 x2 x3 x4 x5 x6 x7 Q h => ∃ k, table_Purse_walk_A k x0 x1 x2 x3 x4 x5 x6 x7 Q h
def table_Purse_walk_W (f : table_Purse_walk_T) : ArS [.agg [.p, .p, .p, (.i .i64)], .c (.i .i64), .c (.i .i64), .c (.i .i64), .fn 46 [] [.p]] EnR := fun p0 p1 p2 p3 p4 p5 p6 p7 K _Kp => f p0 p1 p2 p3 p4 p5 p6 p7 (K (.tuple #[]))

/- demesne/table.Pages -/
abbrev table_Pages_T := Option Addr → Option Addr → Option Addr → Int → Int → (Sl → AH → Prop) → AP
def table_Pages_G (f_table_Purse_walk : table_Purse_walk_T) (p0 : Option Addr) (p1 : Option Addr) (p2 : Option Addr) (p3 : Int) (p4 : Int) (Q : Sl → AH → Prop) (h : AH) : Prop :=
(newA h (.cells #[(.slice none 0 0)] 57) fun b1 h2 =>
(f_table_Purse_walk p0 p1 p2 p3 p4 (4 : Int) (0 : Int) (some (Addr.mk b1 0 none)) (fun h3 =>
(aS (Addr.mk b1 0 none) h3 fun s4 =>
(Q s4 h3))) h2))
def table_Pages_A : table_Pages_T := table_Pages_G table_Purse_walk_R
def table_Pages_W (f : table_Pages_T) : ArS [.agg [.p, .p, .p, (.i .i64)], .c (.i .i64)] EnR := fun p0 p1 p2 p3 p4 K _Kp => f p0 p1 p2 p3 p4 (fun r0 => K (.slice r0.a r0.len r0.cap))

/- demesne/demesnelaw09.TableNear -/
abbrev demesnelaw09_TableNear_T := Int → Int → Int → (Bool → AH → Prop) → AP
def demesnelaw09_TableNear_G (f_demesnelaw09_awake : demesnelaw09_awake_T) (f_demesnelaw09_Purse : demesnelaw09_Purse_T) (f_table_Kernel : table_Kernel_T) (f_table_Root : table_Root_T) (f_demesnelaw09_Used : demesnelaw09_Used_T) (f_table_Map : table_Map_T) (f_table_Pages : table_Pages_T) (p0 : Int) (p1 : Int) (p2 : Int) (Q : Bool → AH → Prop) (h : AH) : Prop :=
(∃ R1 : AH → Prop, (∀ h16, R1 h16 → 
(f_demesnelaw09_Purse (20 : Int) (20 : Int) (fun pt17 pt18 pt19 n20 b21 h22 =>
(bsel (!b21)
(Q false h22)
(f_table_Kernel pt17 pt18 pt19 n20 (fun n23 n24 h25 =>
(f_table_Root pt17 pt18 pt19 n20 n23 (fun n26 n27 h28 =>
(f_demesnelaw09_Used pt17 pt18 pt19 n20 (fun n29 h30 =>
(∃ R31 : AH → Prop, (∀ h32, R31 h32 → 
(∃ I33 : Int → Nat → AH → Prop, (∃ m34, I33 (0 : Int) m34 h32) ∧ ∀ x37 : Int, ∀ m34 h36, I33 x37 m34 h36 → 
(bsel (decide (x37 < p2))
(f_table_Map pt17 pt18 pt19 n20 n26 (IntKind.wrap .i64 ((IntKind.wrap .i64 ((IntKind.wrap .i64 (p0 * (512 : Int))) + p1)) + x37)) x37 false true false (fun n38 h39 =>
(bsel (n38 != (0 : Int))
(Q false h39)
(f_demesnelaw09_Used pt17 pt18 pt19 n20 (fun n40 h41 =>
(bsel (n40 != (IntKind.wrap .i64 (n29 + (3 : Int))))
(Q false h41)
(∃ m35, m35 < m34 ∧ I33 (IntKind.wrap .i64 (x37 + (1 : Int))) m35 h41))) h39))) h36)
(f_table_Pages pt17 pt18 pt19 n20 n26 (fun s42 h43 =>
(f_demesnelaw09_awake (fun b44 h45 =>
(bsel b44
(bsel ((Int.ofNat s42.len) == p2)
(onSome s42.a fun a46 =>
(inB (0 : Int) s42.len
(aI .i64 a46 h45 fun n47 =>
(bsel (n47 == (IntKind.wrap .i64 ((IntKind.wrap .i64 (p0 * (512 : Int))) + p1)))
(onSome s42.a fun a48 =>
(inB (IntKind.wrap .i64 (p2 - (1 : Int))) s42.len
(aI .i64 (Addr.add a48 (Int.toNat (IntKind.wrap .i64 (p2 - (1 : Int))) * 1)) h45 fun n49 =>
(Q (n49 == (IntKind.wrap .i64 ((IntKind.wrap .i64 ((IntKind.wrap .i64 ((IntKind.wrap .i64 (p0 * (512 : Int))) + p1)) + p2)) - (1 : Int)))) h45))))
(Q false h45)))))
(Q false h45))
(Q false h45))) h43)) h36)))) ∧
(bsel (n24 != (0 : Int))
(Q false h30)
(bsel (n27 != (0 : Int))
(Q false h30)
(R31 h30))))) h28)) h25)) h22))) h16)) ∧
(bsel (decide (p0 < (0 : Int)))
(f_demesnelaw09_awake (fun b2 h3 =>
(Q b2 h3)) h)
(bsel (decide (p0 ≥ (67108864 : Int)))
(f_demesnelaw09_awake (fun b4 h5 =>
(Q b4 h5)) h)
(bsel (decide (p1 < (0 : Int)))
(f_demesnelaw09_awake (fun b6 h7 =>
(Q b6 h7)) h)
(bsel (decide (p1 > (511 : Int)))
(f_demesnelaw09_awake (fun b8 h9 =>
(Q b8 h9)) h)
(bsel (decide (p2 < (1 : Int)))
(f_demesnelaw09_awake (fun b10 h11 =>
(Q b10 h11)) h)
(bsel (decide (p2 > (200 : Int)))
(f_demesnelaw09_awake (fun b12 h13 =>
(Q b12 h13)) h)
(bsel (decide ((IntKind.wrap .i64 (p1 + p2)) > (512 : Int)))
(f_demesnelaw09_awake (fun b14 h15 =>
(Q b14 h15)) h)
(R1 h)))))))))
def demesnelaw09_TableNear_A : demesnelaw09_TableNear_T := demesnelaw09_TableNear_G demesnelaw09_awake_A demesnelaw09_Purse_A table_Kernel_A table_Root_A demesnelaw09_Used_A table_Map_A table_Pages_A
def demesnelaw09_TableNear_W (f : demesnelaw09_TableNear_T) : ArS [.c (.i .i64), .c (.i .i64), .c (.i .i64)] EnR := fun p0 p1 p2 K _Kp => f p0 p1 p2 (fun r0 => K (.bool r0))

/- (*demesne/ram.RAM).Clear -/
abbrev ram_RAM_Clear_T := Option Addr → Int → (Bool → AH → Prop) → AP
def ram_RAM_Clear_A (p0 : Option Addr) (p1 : Int) (Q : Bool → AH → Prop) (h : AH) : Prop :=
(onSome p0 fun a1 =>
(aM (Addr.add a1 2) h fun mp2 =>
(aLk h mp2 .i64 p1 fun o3 =>
(∃ pt4 : Option Addr, ((o3.getD (.pointer none)) : Value) = (.pointer pt4) ∧
(bsel pt4.isNone
(Q true h)
(onSome pt4 fun a5 =>
(aRow 4096 a5 h fun r6 =>
(eqBy r6 (Array.replicate 4096 (.int .u8 (0 : Int))) 4096 fun b7 =>
(Q b7 h)))))))))
def ram_RAM_Clear_W (f : ram_RAM_Clear_T) : ArS [.c .p, .c (.i .i64)] EnR := fun p0 p1 K _Kp => f p0 p1 (fun r0 => K (.bool r0))

/- demesne/table.Unmap -/
abbrev table_Unmap_T := Option Addr → Option Addr → Option Addr → Int → Int → Int → (Int → Int → AH → Prop) → AP
def table_Unmap_G (f_table_Query : table_Query_T) (f_table_path : table_path_T) (f_table_Purse_down : table_Purse_down_T) (f_table_place : table_place_T) (f_ram_RAM_Store : ram_RAM_Store_T) (f_ram_RAM_Clear : ram_RAM_Clear_T) (f_table_Purse_Give : table_Purse_Give_T) (p0 : Option Addr) (p1 : Option Addr) (p2 : Option Addr) (p3 : Int) (p4 : Int) (p5 : Int) (Q : Int → Int → AH → Prop) (h : AH) : Prop :=
(f_table_Query p0 p1 p2 p3 p4 p5 (fun n1 b2 b3 b4 b5 h6 =>
(bsel (!b5)
(Q (0 : Int) (5 : Int) h6)
(f_table_path p5 (fun n7 n8 n9 n10 h11 =>
(f_table_Purse_down p0 p1 p2 p3 p4 p5 (fun s12 h13 =>
(newA h13 (.cells #[(.int .i64 (0 : Int)), (.int .i64 (0 : Int)), (.int .i64 (0 : Int)), (.int .i64 (0 : Int))] 110) fun b14 h15 =>
(aC (Addr.mk b14 0 none) (.int .i64 n7) h15 fun h16 =>
(aC (Addr.add (Addr.mk b14 0 none) 1) (.int .i64 n8) h16 fun h17 =>
(aC (Addr.add (Addr.mk b14 0 none) 2) (.int .i64 n9) h17 fun h18 =>
(aC (Addr.add (Addr.mk b14 0 none) 3) (.int .i64 n10) h18 fun h19 =>
(onSome s12.a fun a20 =>
(inB (3 : Int) s12.len
(aI .i64 (Addr.add a20 3) h19 fun n21 =>
(aI .i64 (Addr.add (Addr.mk b14 0 none) 3) h19 fun n22 =>
(f_table_place n21 n22 (fun n23 h24 =>
(f_ram_RAM_Store p0 n23 (8 : Int) (0 : Int) (fun n25 h26 =>
(∃ I27 : Int → Nat → AH → Prop, (∃ m28, I27 (3 : Int) m28 h26) ∧ ∀ x31 : Int, ∀ m28 h30, I27 x31 m28 h30 → 
(bsel (decide (x31 > (0 : Int)))
(onSome s12.a fun a32 =>
(inB x31 s12.len
(aI .i64 (Addr.add a32 (Int.toNat x31 * 1)) h30 fun n33 =>
(f_ram_RAM_Clear p0 n33 (fun b34 h35 =>
(bsel b34
(onSome s12.a fun a36 =>
(inB (IntKind.wrap .i64 (x31 - (1 : Int))) s12.len
(inB (IntKind.wrap .i64 (x31 - (1 : Int))) 4
(aI .i64 (Addr.add a36 (Int.toNat (IntKind.wrap .i64 (x31 - (1 : Int))) * 1)) h35 fun n37 =>
(aI .i64 (Addr.add (Addr.mk b14 0 none) (Int.toNat (IntKind.wrap .i64 (x31 - (1 : Int))) * 1)) h35 fun n38 =>
(f_table_place n37 n38 (fun n39 h40 =>
(f_ram_RAM_Store p0 n39 (8 : Int) (0 : Int) (fun n41 h42 =>
(onSome s12.a fun a43 =>
(inB x31 s12.len
(aI .i64 (Addr.add a43 (Int.toNat x31 * 1)) h42 fun n44 =>
(f_table_Purse_Give p0 p1 p2 p3 n44 (fun h45 =>
(∃ m29, m29 < m28 ∧ I27 (IntKind.wrap .i64 (x31 - (1 : Int))) m29 h45)) h42))))) h40)) h35))))))
(Q n1 (0 : Int) h35))) h30))))
(Q n1 (0 : Int) h30)))) h24)) h19))))))))))) h11)) h6))) h)
def table_Unmap_A : table_Unmap_T := table_Unmap_G table_Query_A table_path_A table_Purse_down_A table_place_A ram_RAM_Store_A ram_RAM_Clear_A table_Purse_Give_A
def table_Unmap_W (f : table_Unmap_T) : ArS [.agg [.p, .p, .p, (.i .i64)], .c (.i .i64), .c (.i .i64)] EnR := fun p0 p1 p2 p3 p4 p5 K _Kp => f p0 p1 p2 p3 p4 p5 (fun r0 r1 => K (.tuple #[(.int .i64 r0), (.int .i64 r1)]))

/- demesne/table.Drop -/
abbrev table_Drop_T := Option Addr → Option Addr → Option Addr → Int → Int → (Int → AH → Prop) → AP
def table_Drop_G (f_table_Pages : table_Pages_T) (f_table_Purse_Give : table_Purse_Give_T) (p0 : Option Addr) (p1 : Option Addr) (p2 : Option Addr) (p3 : Int) (p4 : Int) (Q : Int → AH → Prop) (h : AH) : Prop :=
(f_table_Pages p0 p1 p2 p3 p4 (fun s1 h2 =>
(bsel (decide ((Int.ofNat s1.len) > (0 : Int)))
(Q (11 : Int) h2)
(f_table_Purse_Give p0 p1 p2 p3 p4 (fun h3 =>
(Q (0 : Int) h3)) h2))) h)
def table_Drop_A : table_Drop_T := table_Drop_G table_Pages_A table_Purse_Give_A
def table_Drop_W (f : table_Drop_T) : ArS [.agg [.p, .p, .p, (.i .i64)], .c (.i .i64)] EnR := fun p0 p1 p2 p3 p4 K _Kp => f p0 p1 p2 p3 p4 (fun r0 => K (.int .i64 r0))

/- demesne/demesnelaw09.TableBack -/
abbrev demesnelaw09_TableBack_T := Sl → Sl → (Bool → AH → Prop) → AP
def demesnelaw09_TableBack_G (f_demesnelaw09_Purse : demesnelaw09_Purse_T) (f_table_Kernel : table_Kernel_T) (f_demesnelaw09_Used : demesnelaw09_Used_T) (f_table_Root : table_Root_T) (f_table_Map : table_Map_T) (f_table_Pages : table_Pages_T) (f_table_Unmap : table_Unmap_T) (f_demesnelaw09_awake : demesnelaw09_awake_T) (f_table_Drop : table_Drop_T) (f_buddy_Buddy_Free : buddy_Buddy_Free_T) (p0 : Sl) (p1 : Sl) (Q : Bool → AH → Prop) (h : AH) : Prop :=
(f_demesnelaw09_Purse (140 : Int) (140 : Int) (fun pt1 pt2 pt3 n4 b5 h6 =>
(bsel (!b5)
(Q false h6)
(f_table_Kernel pt1 pt2 pt3 n4 (fun n7 n8 h9 =>
(f_demesnelaw09_Used pt1 pt2 pt3 n4 (fun n10 h11 =>
(f_table_Root pt1 pt2 pt3 n4 n7 (fun n12 n13 h14 =>
(∃ R15 : AH → Prop, (∀ h16, R15 h16 → 
(∃ R17 : AH → Prop, (∀ h33, R17 h33 → 
(∃ R34 : AH → Prop, (∀ h60, R34 h60 → 
(f_table_Pages pt1 pt2 pt3 n4 n12 (fun s61 h62 =>
(∃ I63 : Int → Nat → AH → Prop, (∃ m64, I63 (0 : Int) m64 h62) ∧ ∀ x67 : Int, ∀ m64 h66, I63 x67 m64 h66 → 
(bsel (decide (x67 < (Int.ofNat s61.len)))
(onSome s61.a fun a68 =>
(inB x67 s61.len
(aI .i64 (Addr.add a68 (Int.toNat x67 * 1)) h66 fun n69 =>
(f_table_Unmap pt1 pt2 pt3 n4 n12 n69 (fun n70 n71 h72 =>
(bsel (n71 != (0 : Int))
(Q false h72)
(∃ m65, m65 < m64 ∧ I63 (IntKind.wrap .i64 (x67 + (1 : Int))) m65 h72))) h66))))
(f_demesnelaw09_awake (fun b73 h74 =>
(bsel b73
(f_demesnelaw09_Used pt1 pt2 pt3 n4 (fun n75 h76 =>
(bsel (n75 == (IntKind.wrap .i64 (n10 + (1 : Int))))
(f_table_Drop pt1 pt2 pt3 n4 n12 (fun n77 h78 =>
(bsel (n77 == (0 : Int))
(f_demesnelaw09_Used pt1 pt2 pt3 n4 (fun n79 h80 =>
(bsel (n79 == n10)
(f_buddy_Buddy_Free pt2 (fun n81 h82 =>
(Q (n81 == (IntKind.wrap .i64 ((139 : Int) - n10))) h82)) h80)
(Q false h80))) h78)
(Q false h78))) h76)
(Q false h76))) h74)
(Q false h74))) h66)))) h60)) ∧
(∃ I35 : Int → Nat → AH → Prop, (∃ m36, I35 (0 : Int) m36 h33) ∧ ∀ x39 : Int, ∀ m36 h38, I35 x39 m36 h38 → 
(∃ R40 : AH → Prop, (∀ h41, R40 h41 → 
(∃ R42 : AH → Prop, (∀ h59, R42 h59 → 
(∃ m37, m37 < m36 ∧ I35 (IntKind.wrap .i64 (x39 + (1 : Int))) m37 h59)) ∧
(f_table_Pages pt1 pt2 pt3 n4 n12 (fun s43 h44 =>
(∃ R45 : Bool → AH → Prop, (∀ b50 : Bool, ∀ h51, R45 b50 h51 → 
(bsel b50
(onSome p1.a fun a52 =>
(inB x39 p1.len
(aI .i64 (Addr.add a52 (Int.toNat x39 * 1)) h51 fun n53 =>
(onSome s43.a fun a54 =>
(inB n53 s43.len
(aI .i64 (Addr.add a54 (Int.toNat n53 * 1)) h51 fun n55 =>
(f_table_Unmap pt1 pt2 pt3 n4 n12 n55 (fun n56 n57 h58 =>
(bsel (n57 != (0 : Int))
(Q false h58)
(R42 h58))) h51)))))))
(R42 h51))) ∧
(onSome p1.a fun a46 =>
(inB x39 p1.len
(aI .i64 (Addr.add a46 (Int.toNat x39 * 1)) h44 fun n47 =>
(bsel (decide (n47 ≥ (0 : Int)))
(onSome p1.a fun a48 =>
(inB x39 p1.len
(aI .i64 (Addr.add a48 (Int.toNat x39 * 1)) h44 fun n49 =>
(R45 (decide (n49 < (Int.ofNat s43.len))) h44))))
(R45 false h44))))))) h41))) ∧
(bsel (decide (x39 < (Int.ofNat p1.len)))
(bsel (decide (x39 < (60 : Int)))
(R40 h38)
(R34 h38))
(R34 h38)))))) ∧
(∃ I18 : Int → Nat → AH → Prop, (∃ m19, I18 (0 : Int) m19 h16) ∧ ∀ x22 : Int, ∀ m19 h21, I18 x22 m19 h21 → 
(bsel (decide (x22 < (Int.ofNat p0.len)))
(bsel (decide (x22 < (30 : Int)))
(onSome p0.a fun a23 =>
(inB x22 p0.len
(aI .i64 (Addr.add (Addr.add a23 (Int.toNat x22 * 6)) 1) h21 fun n24 =>
(onSome p0.a fun a25 =>
(inB x22 p0.len
(aI .i64 (Addr.add (Addr.add a25 (Int.toNat x22 * 6)) 2) h21 fun n26 =>
(onSome p0.a fun a27 =>
(inB x22 p0.len
(aB (Addr.add (Addr.add a27 (Int.toNat x22 * 6)) 3) h21 fun b28 =>
(aB (Addr.add (Addr.add (Addr.add a27 (Int.toNat x22 * 6)) 3) 1) h21 fun b29 =>
(aB (Addr.add (Addr.add (Addr.add a27 (Int.toNat x22 * 6)) 3) 2) h21 fun b30 =>
(f_table_Map pt1 pt2 pt3 n4 n12 n24 n26 b28 b29 b30 (fun n31 h32 =>
(∃ m20, m20 < m19 ∧ I18 (IntKind.wrap .i64 (x22 + (1 : Int))) m20 h32)) h21))))))))))))
(R17 h21))
(R17 h21))))) ∧
(bsel (n8 != (0 : Int))
(Q false h14)
(bsel (n13 != (0 : Int))
(Q false h14)
(R15 h14))))) h11)) h9)) h6))) h)
def demesnelaw09_TableBack_A : demesnelaw09_TableBack_T := demesnelaw09_TableBack_G demesnelaw09_Purse_A table_Kernel_A demesnelaw09_Used_A table_Root_A table_Map_A table_Pages_A table_Unmap_A demesnelaw09_awake_A table_Drop_A buddy_Buddy_Free_A
def demesnelaw09_TableBack_W (f : demesnelaw09_TableBack_T) : ArS [.c .s, .c .s] EnR := fun p0 p1 K _Kp => f p0 p1 (fun r0 => K (.bool r0))

/- demesne/demesneref09.Find -/
abbrev demesneref09_Find_T := Sl → Int → (Int → Int → Bool → Bool → Bool → Bool → AH → Prop) → AP
def demesneref09_Find_A (p0 : Sl) (p1 : Int) (Q : Int → Int → Bool → Bool → Bool → Bool → AH → Prop) (h : AH) : Prop :=
(∃ I1 : Int → Int → Int → Bool → Bool → Bool → Nat → AH → Prop, (∃ m2, I1 (0 : Int) (0 : Int) (0 : Int) false false false m2 h) ∧ ∀ x5 : Int, ∀ c6 : Int, ∀ c7 : Int, ∀ c8 : Bool, ∀ c9 : Bool, ∀ c10 : Bool, ∀ m2 h4, I1 x5 c6 c7 c8 c9 c10 m2 h4 → 
(bsel (decide (x5 < (Int.ofNat p0.len)))
(onSome p0.a fun a11 =>
(inB x5 p0.len
(aI .i64 (Addr.add a11 (Int.toNat x5 * 5)) h4 fun n12 =>
(aI .i64 (Addr.add (Addr.add a11 (Int.toNat x5 * 5)) 1) h4 fun n13 =>
(aB (Addr.add (Addr.add a11 (Int.toNat x5 * 5)) 2) h4 fun b14 =>
(aB (Addr.add (Addr.add a11 (Int.toNat x5 * 5)) 3) h4 fun b15 =>
(aB (Addr.add (Addr.add a11 (Int.toNat x5 * 5)) 4) h4 fun b16 =>
(bsel (n12 == p1)
(Q n12 n13 b14 b15 b16 true h4)
(∃ m3, m3 < m2 ∧ I1 (IntKind.wrap .i64 (x5 + (1 : Int))) c6 c7 c8 c9 c10 m3 h4)))))))))
(Q (0 : Int) (0 : Int) (false : Bool) (false : Bool) (false : Bool) false h4)))
def demesneref09_Find_W (f : demesneref09_Find_T) : ArS [.c .s, .c (.i .i64)] EnR := fun p0 p1 K _Kp => f p0 p1 (fun r0 r1 r2 r3 r4 r5 => K (.tuple #[(.agg #[(.int .i64 r0), (.int .i64 r1), (.bool r2), (.bool r3), (.bool r4)]), (.bool r5)]))

/- demesne/demesneref09.With -/
abbrev demesneref09_With_T := Sl → Int → Int → Bool → Bool → Bool → (Sl → AH → Prop) → AP
def demesneref09_With_A (p0 : Sl) (p1 : Int) (p2 : Int) (p3 : Bool) (p4 : Bool) (p5 : Bool) (Q : Sl → AH → Prop) (h : AH) : Prop :=
(newA h (.cells #[] 67) fun b1 h2 =>
(∃ I3 : Sl → Bool → Int → Nat → AH → Prop, (∃ m4, I3 (Sl.mk (some (Addr.mk b1 0 none)) 0 0) false (0 : Int) m4 h2) ∧ ∀ s7 : Sl, ∀ b8 : Bool, ∀ x9 : Int, ∀ m4 h6, I3 s7 b8 x9 m4 h6 → 
(bsel (decide (x9 < (Int.ofNat p0.len)))
(onSome p0.a fun a10 =>
(inB x9 p0.len
(aI .i64 (Addr.add a10 (Int.toNat x9 * 5)) h6 fun n11 =>
(aI .i64 (Addr.add (Addr.add a10 (Int.toNat x9 * 5)) 1) h6 fun n12 =>
(aB (Addr.add (Addr.add a10 (Int.toNat x9 * 5)) 2) h6 fun b13 =>
(aB (Addr.add (Addr.add a10 (Int.toNat x9 * 5)) 3) h6 fun b14 =>
(aB (Addr.add (Addr.add a10 (Int.toNat x9 * 5)) 4) h6 fun b15 =>
(∃ R16 : Sl → Bool → AH → Prop, (∀ s21 : Sl, ∀ b22 : Bool, ∀ h23, R16 s21 b22 h23 → 
(newA h23 (.cells #[(.int .i64 n11), (.int .i64 n12), (.bool b13), (.bool b14), (.bool b15)] 67) fun b24 h25 =>
(apA 5 24 #[(.int .i64 (0 : Int)), (.int .i64 (0 : Int)), (.bool false), (.bool false), (.bool false)] 67 s21 (Sl.mk (some (Addr.mk b24 0 none)) 1 1) h25 fun s26 h27 =>
(∃ m5, m5 < m4 ∧ I3 s26 b22 (IntKind.wrap .i64 (x9 + (1 : Int))) m5 h27)))) ∧
(bsel (!b8)
(bsel (decide (n11 > p1))
(newA h6 (.cells #[(.int .i64 p1), (.int .i64 p2), (.bool p3), (.bool p4), (.bool p5)] 67) fun b17 h18 =>
(apA 5 24 #[(.int .i64 (0 : Int)), (.int .i64 (0 : Int)), (.bool false), (.bool false), (.bool false)] 67 s7 (Sl.mk (some (Addr.mk b17 0 none)) 1 1) h18 fun s19 h20 =>
(R16 s19 true h20)))
(R16 s7 b8 h6))
(R16 s7 b8 h6))))))))))
(∃ R28 : Sl → AH → Prop, (∀ s33 : Sl, ∀ h34, R28 s33 h34 → 
(Q s33 h34)) ∧
(bsel (!b8)
(newA h6 (.cells #[(.int .i64 p1), (.int .i64 p2), (.bool p3), (.bool p4), (.bool p5)] 67) fun b29 h30 =>
(apA 5 24 #[(.int .i64 (0 : Int)), (.int .i64 (0 : Int)), (.bool false), (.bool false), (.bool false)] 67 s7 (Sl.mk (some (Addr.mk b29 0 none)) 1 1) h30 fun s31 h32 =>
(R28 s31 h32)))
(R28 s7 h6))))))
def demesneref09_With_W (f : demesneref09_With_T) : ArS [.c .s, .agg [(.i .i64), (.i .i64), .b, .b, .b]] EnR := fun p0 p1 p2 p3 p4 p5 K _Kp => f p0 p1 p2 p3 p4 p5 (fun r0 => K (.slice r0.a r0.len r0.cap))

/- demesne/demesneref09.Numbers -/
abbrev demesneref09_Numbers_T := Sl → (Sl → AH → Prop) → AP
def demesneref09_Numbers_A (p0 : Sl) (Q : Sl → AH → Prop) (h : AH) : Prop :=
(newA h (.cells #[] 3) fun b1 h2 =>
(∃ I3 : Sl → Int → Nat → AH → Prop, (∃ m4, I3 (Sl.mk (some (Addr.mk b1 0 none)) 0 0) (0 : Int) m4 h2) ∧ ∀ s7 : Sl, ∀ x8 : Int, ∀ m4 h6, I3 s7 x8 m4 h6 → 
(bsel (decide (x8 < (Int.ofNat p0.len)))
(onSome p0.a fun a9 =>
(inB x8 p0.len
(aI .i64 (Addr.add a9 (Int.toNat x8 * 5)) h6 fun n10 =>
(aI .i64 (Addr.add (Addr.add a9 (Int.toNat x8 * 5)) 1) h6 fun n11 =>
(aB (Addr.add (Addr.add a9 (Int.toNat x8 * 5)) 2) h6 fun b12 =>
(aB (Addr.add (Addr.add a9 (Int.toNat x8 * 5)) 3) h6 fun b13 =>
(aB (Addr.add (Addr.add a9 (Int.toNat x8 * 5)) 4) h6 fun b14 =>
(newA h6 (.cells #[(.int .i64 n10)] 3) fun b15 h16 =>
(apA 1 8 #[(.int .i64 (0 : Int))] 3 s7 (Sl.mk (some (Addr.mk b15 0 none)) 1 1) h16 fun s17 h18 =>
(∃ m5, m5 < m4 ∧ I3 s17 (IntKind.wrap .i64 (x8 + (1 : Int))) m5 h18))))))))))
(Q s7 h6))))
def demesneref09_Numbers_W (f : demesneref09_Numbers_T) : ArS [.c .s] EnR := fun p0 K _Kp => f p0 (fun r0 => K (.slice r0.a r0.len r0.cap))

/- demesne/demesneref09.Tables -/
abbrev demesneref09_Tables_T := Sl → (Int → AH → Prop) → AP
def demesneref09_Tables_A (p0 : Sl) (Q : Int → AH → Prop) (h : AH) : Prop :=
(∃ I1 : Int → Int → Nat → AH → Prop, (∃ m2, I1 (1 : Int) (0 : Int) m2 h) ∧ ∀ x5 : Int, ∀ x6 : Int, ∀ m2 h4, I1 x5 x6 m2 h4 → 
(bsel (decide (x6 < (Int.ofNat p0.len)))
(onSome p0.a fun a7 =>
(inB x6 p0.len
(aI .i64 (Addr.add a7 (Int.toNat x6 * 1)) h4 fun n8 =>
(newA h4 (.cells #[(.int .i64 (9 : Int)), (.int .i64 (18 : Int)), (.int .i64 (27 : Int))] 3) fun b9 h10 =>
(∃ I11 : Int → Int → Nat → AH → Prop, (∃ m12, I11 x5 (0 : Int) m12 h10) ∧ ∀ x15 : Int, ∀ x16 : Int, ∀ m12 h14, I11 x15 x16 m12 h14 → 
(bsel (decide (x16 < (3 : Int)))
(∃ R17 : Int → AH → Prop, (∀ x21 : Int, ∀ h22, R17 x21 h22 → 
(∃ m13, m13 < m12 ∧ I11 x21 (IntKind.wrap .i64 (x16 + (1 : Int))) m13 h22)) ∧
(inB x16 3
(aI .i64 (Addr.add (Addr.mk b9 0 none) (Int.toNat x16 * 1)) h14 fun n18 =>
(bsel (x6 == (0 : Int))
(R17 (IntKind.wrap .i64 (x15 + (1 : Int))) h14)
(onSome p0.a fun a19 =>
(inB (IntKind.wrap .i64 (x6 - (1 : Int))) p0.len
(aI .i64 (Addr.add a19 (Int.toNat (IntKind.wrap .i64 (x6 - (1 : Int))) * 1)) h14 fun n20 =>
(bsel (decide (n18 < 0)) False
(bsel (decide (n18 < 0)) False
(bsel ((Int.fdiv n20 (2 ^ (min (Int.toNat n18) 64))) != (Int.fdiv n8 (2 ^ (min (Int.toNat n18) 64))))
(R17 (IntKind.wrap .i64 (x15 + (1 : Int))) h14)
(R17 x15 h14)))))))))))
(∃ m3, m3 < m2 ∧ I1 x15 (IntKind.wrap .i64 (x6 + (1 : Int))) m3 h14)))))))
(Q x5 h4)))
def demesneref09_Tables_W (f : demesneref09_Tables_T) : ArS [.c .s] EnR := fun p0 K _Kp => f p0 (fun r0 => K (.int .i64 r0))

/- demesne/demesnelaw09.mapped -/
abbrev demesnelaw09_mapped_T := Sl → Int → Int → Int → Bool → Bool → Bool → Int → (Sl → Int → AH → Prop) → AP
def demesnelaw09_mapped_G (f_demesneref09_Find : demesneref09_Find_T) (f_demesneref09_With : demesneref09_With_T) (f_demesneref09_Numbers : demesneref09_Numbers_T) (f_demesneref09_Tables : demesneref09_Tables_T) (p0 : Sl) (_p1 : Int) (p2 : Int) (p3 : Int) (p4 : Bool) (p5 : Bool) (p6 : Bool) (p7 : Int) (Q : Sl → Int → AH → Prop) (h : AH) : Prop :=
(∃ R1 : AH → Prop, (∀ h2, R1 h2 → 
(f_demesneref09_Find p0 p2 (fun n3 n4 b5 b6 b7 b8 h9 =>
(bsel b8
(Q p0 (6 : Int) h9)
(f_demesneref09_With p0 p2 p3 p4 p5 p6 (fun s10 h11 =>
(f_demesneref09_Numbers s10 (fun s12 h13 =>
(f_demesneref09_Tables s12 (fun n14 h15 =>
(f_demesneref09_Numbers p0 (fun s16 h17 =>
(f_demesneref09_Tables s16 (fun n18 h19 =>
(bsel (decide ((IntKind.wrap .i64 (n14 - n18)) > p7))
(Q p0 (8 : Int) h19)
(Q s10 (0 : Int) h19))) h17)) h15)) h13)) h11)) h9))) h2)) ∧
(bsel (decide (p2 < (0 : Int)))
(Q p0 (1 : Int) h)
(bsel (decide (p2 ≥ (34359738368 : Int)))
(Q p0 (1 : Int) h)
(bsel (decide (p3 < (0 : Int)))
(Q p0 (1 : Int) h)
(bsel (decide (p3 ≥ (1048576 : Int)))
(Q p0 (1 : Int) h)
(R1 h))))))
def demesnelaw09_mapped_A : demesnelaw09_mapped_T := demesnelaw09_mapped_G demesneref09_Find_A demesneref09_With_A demesneref09_Numbers_A demesneref09_Tables_A
def demesnelaw09_mapped_W (f : demesnelaw09_mapped_T) : ArS [.c .s, .agg [(.i .i64), (.i .i64), (.i .i64), .b, .b, .b], .c (.i .i64)] EnR := fun p0 p1 p2 p3 p4 p5 p6 p7 K _Kp => f p0 p1 p2 p3 p4 p5 p6 p7 (fun r0 r1 => K (.tuple #[(.slice r0.a r0.len r0.cap), (.int .i64 r1)]))

/- demesne/demesneref09.Without -/
abbrev demesneref09_Without_T := Sl → Int → (Sl → AH → Prop) → AP
def demesneref09_Without_A (p0 : Sl) (p1 : Int) (Q : Sl → AH → Prop) (h : AH) : Prop :=
(newA h (.cells #[] 67) fun b1 h2 =>
(∃ I3 : Sl → Int → Nat → AH → Prop, (∃ m4, I3 (Sl.mk (some (Addr.mk b1 0 none)) 0 0) (0 : Int) m4 h2) ∧ ∀ s7 : Sl, ∀ x8 : Int, ∀ m4 h6, I3 s7 x8 m4 h6 → 
(bsel (decide (x8 < (Int.ofNat p0.len)))
(∃ R9 : Sl → AH → Prop, (∀ s20 : Sl, ∀ h21, R9 s20 h21 → 
(∃ m5, m5 < m4 ∧ I3 s20 (IntKind.wrap .i64 (x8 + (1 : Int))) m5 h21)) ∧
(onSome p0.a fun a10 =>
(inB x8 p0.len
(aI .i64 (Addr.add a10 (Int.toNat x8 * 5)) h6 fun n11 =>
(aI .i64 (Addr.add (Addr.add a10 (Int.toNat x8 * 5)) 1) h6 fun n12 =>
(aB (Addr.add (Addr.add a10 (Int.toNat x8 * 5)) 2) h6 fun b13 =>
(aB (Addr.add (Addr.add a10 (Int.toNat x8 * 5)) 3) h6 fun b14 =>
(aB (Addr.add (Addr.add a10 (Int.toNat x8 * 5)) 4) h6 fun b15 =>
(bsel (n11 != p1)
(newA h6 (.cells #[(.int .i64 n11), (.int .i64 n12), (.bool b13), (.bool b14), (.bool b15)] 67) fun b16 h17 =>
(apA 5 24 #[(.int .i64 (0 : Int)), (.int .i64 (0 : Int)), (.bool false), (.bool false), (.bool false)] 67 s7 (Sl.mk (some (Addr.mk b16 0 none)) 1 1) h17 fun s18 h19 =>
(R9 s18 h19)))
(R9 s7 h6))))))))))
(Q s7 h6))))
def demesneref09_Without_W (f : demesneref09_Without_T) : ArS [.c .s, .c (.i .i64)] EnR := fun p0 p1 K _Kp => f p0 p1 (fun r0 => K (.slice r0.a r0.len r0.cap))

/- demesne/demesnelaw09.does -/
abbrev demesnelaw09_does_T := Option Addr → Option Addr → Option Addr → Int → Int → Sl → Int → Int → Int → Bool → Bool → Bool → Int → (Sl → Bool → AH → Prop) → AP
def demesnelaw09_does_G (f_demesneref09_Find : demesneref09_Find_T) (f_demesnelaw09_mapped : demesnelaw09_mapped_T) (f_table_Map : table_Map_T) (f_table_Unmap : table_Unmap_T) (f_demesneref09_Without : demesneref09_Without_T) (f_table_Protect : table_Protect_T) (f_demesneref09_With : demesneref09_With_T) (f_table_Query : table_Query_T) (p0 : Option Addr) (p1 : Option Addr) (p2 : Option Addr) (p3 : Int) (p4 : Int) (p5 : Sl) (p6 : Int) (p7 : Int) (p8 : Int) (p9 : Bool) (p10 : Bool) (p11 : Bool) (p12 : Int) (Q : Sl → Bool → AH → Prop) (h : AH) : Prop :=
(f_demesneref09_Find p5 p7 (fun n1 n2 b3 b4 b5 b6 h7 =>
(∃ R8 : Int → AH → Prop, (∀ x9 : Int, ∀ h10, R8 x9 h10 → 
(bsel (p6 == (1 : Int))
(f_demesnelaw09_mapped p5 p6 p7 p8 p9 p10 p11 p12 (fun s11 n12 h13 =>
(f_table_Map p0 p1 p2 p3 p4 p7 p8 p9 p10 p11 (fun n14 h15 =>
(Q s11 (n14 == n12) h15)) h13)) h10)
(bsel (p6 == (2 : Int))
(f_table_Unmap p0 p1 p2 p3 p4 p7 (fun n16 n17 h18 =>
(f_demesneref09_Without p5 p7 (fun s19 h20 =>
(bsel (n17 == x9)
(Q s19 (n16 == n2) h20)
(Q s19 false h20))) h18)) h10)
(bsel (p6 == (3 : Int))
(f_table_Protect p0 p1 p2 p3 p4 p7 p9 p10 p11 (fun n21 h22 =>
(∃ R23 : Sl → AH → Prop, (∀ s28 : Sl, ∀ h29, R23 s28 h29 → 
(Q s28 (n21 == x9) h29)) ∧
(bsel b6
(f_demesneref09_Without p5 p7 (fun s24 h25 =>
(f_demesneref09_With s24 p7 n2 p9 p10 p11 (fun s26 h27 =>
(R23 s26 h27)) h25)) h22)
(R23 p5 h22)))) h10)
(f_table_Query p0 p1 p2 p3 p4 p7 (fun n30 b31 b32 b33 b34 h35 =>
(bsel (b34 == b6)
(bsel (n30 == n2)
(Q p5 ((b31 == b3) && ((b32 == b4) && ((b33 == b5) && true))) h35)
(Q p5 false h35))
(Q p5 false h35))) h10))))) ∧
(bsel (!b6)
(R8 (5 : Int) h7)
(R8 (0 : Int) h7)))) h)
def demesnelaw09_does_A : demesnelaw09_does_T := demesnelaw09_does_G demesneref09_Find_A demesnelaw09_mapped_A table_Map_A table_Unmap_A demesneref09_Without_A table_Protect_A demesneref09_With_A table_Query_A
def demesnelaw09_does_W (f : demesnelaw09_does_T) : ArS [.agg [.p, .p, .p, (.i .i64)], .c (.i .i64), .c .s, .agg [(.i .i64), (.i .i64), (.i .i64), .b, .b, .b], .c (.i .i64)] EnR := fun p0 p1 p2 p3 p4 p5 p6 p7 p8 p9 p10 p11 p12 K _Kp => f p0 p1 p2 p3 p4 p5 p6 p7 p8 p9 p10 p11 p12 (fun r0 r1 => K (.tuple #[(.slice r0.a r0.len r0.cap), (.bool r1)]))

/- demesne/demesnelaw09.TableApart -/
abbrev demesnelaw09_TableApart_T := Sl → Sl → (Bool → AH → Prop) → AP
def demesnelaw09_TableApart_G (f_demesnelaw09_Purse : demesnelaw09_Purse_T) (f_table_Kernel : table_Kernel_T) (f_table_Root : table_Root_T) (f_demesnelaw09_does : demesnelaw09_does_T) (f_table_Map : table_Map_T) (f_table_Unmap : table_Unmap_T) (f_table_Query : table_Query_T) (f_demesnelaw09_awake : demesnelaw09_awake_T) (f_table_Pages : table_Pages_T) (p0 : Sl) (p1 : Sl) (Q : Bool → AH → Prop) (h : AH) : Prop :=
(f_demesnelaw09_Purse (200 : Int) (200 : Int) (fun pt1 pt2 pt3 n4 b5 h6 =>
(bsel (!b5)
(Q false h6)
(f_table_Kernel pt1 pt2 pt3 n4 (fun n7 n8 h9 =>
(f_table_Root pt1 pt2 pt3 n4 n7 (fun n10 n11 h12 =>
(f_table_Root pt1 pt2 pt3 n4 n7 (fun n13 n14 h15 =>
(∃ R16 : AH → Prop, (∀ h17, R16 h17 → 
(f_demesnelaw09_does pt1 pt2 pt3 n4 n10 Sl.nil (4 : Int) (0 : Int) (0 : Int) false false false (100 : Int) (fun s18 b19 h20 =>
(∃ I21 : Bool → Sl → Int → Nat → AH → Prop, (∃ m22, I21 b19 s18 (0 : Int) m22 h20) ∧ ∀ b25 : Bool, ∀ s26 : Sl, ∀ x27 : Int, ∀ m22 h24, I21 b25 s26 x27 m22 h24 → 
(bsel (decide (x27 < (20 : Int)))
(∃ R28 : Bool → Sl → AH → Prop, (∀ b60 : Bool, ∀ s61 : Sl, ∀ h62, R28 b60 s61 h62 → 
(∃ m23, m23 < m22 ∧ I21 b60 s61 (IntKind.wrap .i64 (x27 + (1 : Int))) m23 h62)) ∧
(∃ R29 : Bool → Sl → AH → Prop, (∀ b40 : Bool, ∀ s41 : Sl, ∀ h42, R29 b40 s41 h42 → 
(bsel (decide (x27 < (Int.ofNat p1.len)))
(onSome p1.a fun a43 =>
(inB x27 p1.len
(aI .i64 (Addr.add (Addr.add a43 (Int.toNat x27 * 6)) 1) h42 fun n44 =>
(onSome p1.a fun a45 =>
(inB x27 p1.len
(aI .i64 (Addr.add (Addr.add a45 (Int.toNat x27 * 6)) 2) h42 fun n46 =>
(onSome p1.a fun a47 =>
(inB x27 p1.len
(aB (Addr.add (Addr.add a47 (Int.toNat x27 * 6)) 3) h42 fun b48 =>
(aB (Addr.add (Addr.add (Addr.add a47 (Int.toNat x27 * 6)) 3) 1) h42 fun b49 =>
(aB (Addr.add (Addr.add (Addr.add a47 (Int.toNat x27 * 6)) 3) 2) h42 fun b50 =>
(f_table_Map pt1 pt2 pt3 n4 n13 n44 n46 b48 b49 b50 (fun n51 h52 =>
(onSome p1.a fun a53 =>
(inB x27 p1.len
(aI .i64 (Addr.add a53 (Int.toNat x27 * 6)) h52 fun n54 =>
(bsel (n54 != (1 : Int))
(onSome p1.a fun a55 =>
(inB x27 p1.len
(aI .i64 (Addr.add (Addr.add a55 (Int.toNat x27 * 6)) 1) h52 fun n56 =>
(f_table_Unmap pt1 pt2 pt3 n4 n13 n56 (fun n57 n58 h59 =>
(R28 b40 s41 h59)) h52))))
(R28 b40 s41 h52)))))) h42))))))))))))
(R28 b40 s41 h42))) ∧
(bsel (decide (x27 < (Int.ofNat p0.len)))
(onSome p0.a fun a30 =>
(inB x27 p0.len
(aI .i64 (Addr.add a30 (Int.toNat x27 * 6)) h24 fun n31 =>
(aI .i64 (Addr.add (Addr.add a30 (Int.toNat x27 * 6)) 1) h24 fun n32 =>
(aI .i64 (Addr.add (Addr.add a30 (Int.toNat x27 * 6)) 2) h24 fun n33 =>
(aB (Addr.add (Addr.add a30 (Int.toNat x27 * 6)) 3) h24 fun b34 =>
(aB (Addr.add (Addr.add a30 (Int.toNat x27 * 6)) 4) h24 fun b35 =>
(aB (Addr.add (Addr.add a30 (Int.toNat x27 * 6)) 5) h24 fun b36 =>
(f_demesnelaw09_does pt1 pt2 pt3 n4 n10 s26 n31 n32 n33 b34 b35 b36 (100 : Int) (fun s37 b38 h39 =>
(bsel b25
(R29 b38 s37 h39)
(R29 false s37 h39))) h24)))))))))
(R29 b25 s26 h24))))
(∃ I63 : Bool → Int → Nat → AH → Prop, (∃ m64, I63 b25 (0 : Int) m64 h24) ∧ ∀ b67 : Bool, ∀ x68 : Int, ∀ m64 h66, I63 b67 x68 m64 h66 → 
(bsel (decide (x68 < (Int.ofNat s26.len)))
(∃ R69 : Bool → AH → Prop, (∀ b82 : Bool, ∀ h83, R69 b82 h83 → 
(∃ m65, m65 < m64 ∧ I63 b82 (IntKind.wrap .i64 (x68 + (1 : Int))) m65 h83)) ∧
(onSome s26.a fun a70 =>
(inB x68 s26.len
(aI .i64 (Addr.add a70 (Int.toNat x68 * 5)) h66 fun n71 =>
(aI .i64 (Addr.add (Addr.add a70 (Int.toNat x68 * 5)) 1) h66 fun n72 =>
(aB (Addr.add (Addr.add a70 (Int.toNat x68 * 5)) 2) h66 fun b73 =>
(aB (Addr.add (Addr.add a70 (Int.toNat x68 * 5)) 3) h66 fun b74 =>
(aB (Addr.add (Addr.add a70 (Int.toNat x68 * 5)) 4) h66 fun b75 =>
(f_table_Query pt1 pt2 pt3 n4 n10 n71 (fun n76 b77 b78 b79 b80 h81 =>
(bsel b67
(bsel b80
(bsel (n76 == n72)
(R69 ((b77 == b73) && ((b78 == b74) && ((b79 == b75) && true))) h81)
(R69 false h81))
(R69 false h81))
(R69 false h81))) h66)))))))))
(f_demesnelaw09_awake (fun b84 h85 =>
(bsel b84
(bsel b67
(f_table_Pages pt1 pt2 pt3 n4 n10 (fun s86 h87 =>
(Q ((Int.ofNat s86.len) == (Int.ofNat s26.len)) h87)) h85)
(Q false h85))
(Q false h85))) h66)))))) h17)) ∧
(bsel (n8 != (0 : Int))
(Q false h15)
(bsel (n11 != (0 : Int))
(Q false h15)
(bsel (n14 != (0 : Int))
(Q false h15)
(bsel (n10 == n13)
(Q false h15)
(R16 h15))))))) h12)) h9)) h6))) h)
def demesnelaw09_TableApart_A : demesnelaw09_TableApart_T := demesnelaw09_TableApart_G demesnelaw09_Purse_A table_Kernel_A table_Root_A demesnelaw09_does_A table_Map_A table_Unmap_A table_Query_A demesnelaw09_awake_A table_Pages_A
def demesnelaw09_TableApart_W (f : demesnelaw09_TableApart_T) : ArS [.c .s, .c .s] EnR := fun p0 p1 K _Kp => f p0 p1 (fun r0 => K (.bool r0))

/- (*demesne/quota.Tree).Child$1 -/
abbrev quota_Tree_Child_1_T := Int → Int → Int → Int → Bool → (Bool → AH → Prop) → AP
def quota_Tree_Child_1_A (_p0 : Int) (_p1 : Int) (_p2 : Int) (_p3 : Int) (p4 : Bool) (Q : Bool → AH → Prop) (h : AH) : Prop :=
(Q (!p4) h)
def quota_Tree_Child_1_W (f : quota_Tree_Child_1_T) : ArS [.agg [(.i .i64), (.i .i64), (.i .i64), (.i .i64), .b]] EnR := fun p0 p1 p2 p3 p4 K _Kp => f p0 p1 p2 p3 p4 (fun r0 => K (.bool r0))

/- slices.IndexFunc[[]demesne/quota.Node,demesne/quota.Node] -/
abbrev slices_IndexFunc_quota_Node_quota_Node_T := Sl → (Int → AH → Prop) → AP
def slices_IndexFunc_quota_Node_quota_Node_G (f_quota_Tree_Child_1 : quota_Tree_Child_1_T) (p0 : Sl) (Q : Int → AH → Prop) (h : AH) : Prop :=
(∃ I1 : Int → Nat → AH → Prop, (∃ m2, I1 (0 : Int) m2 h) ∧ ∀ x5 : Int, ∀ m2 h4, I1 x5 m2 h4 → 
(bsel (decide (x5 < (Int.ofNat p0.len)))
(onSome p0.a fun a6 =>
(inB x5 p0.len
(aI .i64 (Addr.add a6 (Int.toNat x5 * 5)) h4 fun n7 =>
(aI .i64 (Addr.add (Addr.add a6 (Int.toNat x5 * 5)) 1) h4 fun n8 =>
(aI .i64 (Addr.add (Addr.add a6 (Int.toNat x5 * 5)) 2) h4 fun n9 =>
(aI .i64 (Addr.add (Addr.add a6 (Int.toNat x5 * 5)) 3) h4 fun n10 =>
(aB (Addr.add (Addr.add a6 (Int.toNat x5 * 5)) 4) h4 fun b11 =>
(f_quota_Tree_Child_1 n7 n8 n9 n10 b11 (fun b12 h13 =>
(bsel b12
(Q x5 h13)
(∃ m3, m3 < m2 ∧ I1 (IntKind.wrap .i64 (x5 + (1 : Int))) m3 h13))) h4))))))))
(Q (-1 : Int) h4)))
def slices_IndexFunc_quota_Node_quota_Node_A : slices_IndexFunc_quota_Node_quota_Node_T := slices_IndexFunc_quota_Node_quota_Node_G quota_Tree_Child_1_A
def slices_IndexFunc_quota_Node_quota_Node_W (f : slices_IndexFunc_quota_Node_quota_Node_T) : ArS [.c .s, .fn 56 [] []] EnR := fun p0 K _Kp => f p0 (fun r0 => K (.int .i64 r0))

/- slices.Clone[[]demesne/quota.Node,demesne/quota.Node] -/
abbrev slices_Clone_quota_Node_quota_Node_T := Sl → (Sl → AH → Prop) → AP
def slices_Clone_quota_Node_quota_Node_A (p0 : Sl) (Q : Sl → AH → Prop) (h : AH) : Prop :=
(bsel (Option.isNone p0.a)
(Q Sl.nil h)
(newA h (.cells #[] 99) fun b1 h2 =>
(apA 5 40 #[(.int .i64 (0 : Int)), (.int .i64 (0 : Int)), (.int .i64 (0 : Int)), (.int .i64 (0 : Int)), (.bool false)] 99 (Sl.mk (some (Addr.mk b1 0 none)) 0 0) p0 h2 fun s3 h4 =>
(Q s3 h4))))
def slices_Clone_quota_Node_quota_Node_W (f : slices_Clone_quota_Node_quota_Node_T) : ArS [.c .s] EnR := fun p0 K _Kp => f p0 (fun r0 => K (.slice r0.a r0.len r0.cap))

/- (*demesne/quota.Tree).Child -/
abbrev quota_Tree_Child_T := Option Addr → Int → Int → (Int → Int → AH → Prop) → AP
def quota_Tree_Child_G (f_quota_Tree_at : quota_Tree_at_T) (f_quota_Tree_Room : quota_Tree_Room_T) (f_slices_IndexFunc_quota_Node_quota_Node : slices_IndexFunc_quota_Node_quota_Node_T) (f_slices_Clone_quota_Node_quota_Node : slices_Clone_quota_Node_quota_Node_T) (p0 : Option Addr) (p1 : Int) (p2 : Int) (Q : Int → Int → AH → Prop) (h : AH) : Prop :=
(f_quota_Tree_at p0 p1 (fun pt1 b2 h3 =>
(bsel (!b2)
(Q (0 : Int) (5 : Int) h3)
(bsel (decide (p2 < (0 : Int)))
(Q (0 : Int) (1 : Int) h3)
(f_quota_Tree_Room p0 p1 (fun n4 h5 =>
(bsel (decide (p2 > n4))
(Q (0 : Int) (8 : Int) h5)
(onSome p0 fun a6 =>
(aS a6 h5 fun s7 =>
(f_slices_IndexFunc_quota_Node_quota_Node s7 (fun n8 h9 =>
(∃ R10 : AH → Prop, (∀ h13, R10 h13 → 
(onSome pt1 fun a14 =>
(aI .i64 (Addr.add a14 3) h13 fun n15 =>
(onSome pt1 fun a16 =>
(aC (Addr.add a16 3) (.int .i64 (IntKind.wrap .i64 (n15 + p2))) h13 fun h17 =>
(bsel (decide (n8 < (0 : Int)))
(onSome p0 fun a18 =>
(aS a18 h17 fun s19 =>
((f_slices_Clone_quota_Node_quota_Node s19 (fun s20 h21 =>
(newA h21 (.cells #[(.int .i64 p1), (.int .i64 p2), (.int .i64 (0 : Int)), (.int .i64 (0 : Int)), (.bool (true : Bool))] 99) fun b22 h23 =>
(apA 5 40 #[(.int .i64 (0 : Int)), (.int .i64 (0 : Int)), (.int .i64 (0 : Int)), (.int .i64 (0 : Int)), (.bool false)] 99 s20 (Sl.mk (some (Addr.mk b22 0 none)) 1 1) h23 fun s24 h25 =>
(onSome p0 fun a26 =>
(aC a26 (.slice s24.a s24.len s24.cap) h25 fun h27 =>
(onSome p0 fun a28 =>
(aS a28 h27 fun s29 =>
(Q (IntKind.wrap .i64 ((Int.ofNat s29.len) - (1 : Int))) (0 : Int) h27)))))))) h17) ∧
(newA h17 (.cells #[(.int .i64 p1), (.int .i64 p2), (.int .i64 (0 : Int)), (.int .i64 (0 : Int)), (.bool (true : Bool))] 99) fun b30 h31 =>
((aS a18 h31 fun s32 =>
(((.slice s32.a s32.len s32.cap) : Value) = (.slice s19.a s19.len s19.cap))) ∧
(f_slices_Clone_quota_Node_quota_Node s19 (fun s33 h34 =>
(apA 5 40 #[(.int .i64 (0 : Int)), (.int .i64 (0 : Int)), (.int .i64 (0 : Int)), (.int .i64 (0 : Int)), (.bool false)] 99 s33 (Sl.mk (some (Addr.mk b30 0 none)) 1 1) h34 fun s35 h36 =>
(onSome p0 fun a37 =>
(aC a37 (.slice s35.a s35.len s35.cap) h36 fun h38 =>
(onSome p0 fun a39 =>
(aS a39 h38 fun s40 =>
(Q (IntKind.wrap .i64 ((Int.ofNat s40.len) - (1 : Int))) (0 : Int) h38))))))) h31))))))
(onSome p0 fun a41 =>
(aS a41 h17 fun s42 =>
(onSome s42.a fun a43 =>
(inB n8 s42.len
(aC (Addr.add a43 (Int.toNat n8 * 5)) (.int .i64 p1) h17 fun h44 =>
(aC (Addr.add (Addr.add a43 (Int.toNat n8 * 5)) 1) (.int .i64 p2) h44 fun h45 =>
(aC (Addr.add (Addr.add a43 (Int.toNat n8 * 5)) 2) (.int .i64 (0 : Int)) h45 fun h46 =>
(aC (Addr.add (Addr.add a43 (Int.toNat n8 * 5)) 3) (.int .i64 (0 : Int)) h46 fun h47 =>
(aC (Addr.add (Addr.add a43 (Int.toNat n8 * 5)) 4) (.bool (true : Bool)) h47 fun h48 =>
(Q n8 (0 : Int) h48)))))))))))))))) ∧
(bsel (decide (n8 < (0 : Int)))
(onSome p0 fun a11 =>
(aS a11 h9 fun s12 =>
(bsel (decide ((Int.ofNat s12.len) ≥ (64 : Int)))
(Q (0 : Int) (4 : Int) h9)
(R10 h9))))
(R10 h9)))) h5))))) h3)))) h)
def quota_Tree_Child_A : quota_Tree_Child_T := quota_Tree_Child_G quota_Tree_at_A quota_Tree_Room_A slices_IndexFunc_quota_Node_quota_Node_A slices_Clone_quota_Node_quota_Node_A
def quota_Tree_Child_W (f : quota_Tree_Child_T) : ArS [.c .p, .c (.i .i64), .c (.i .i64)] EnR := fun p0 p1 p2 K _Kp => f p0 p1 p2 (fun r0 r1 => K (.tuple #[(.int .i64 r0), (.int .i64 r1)]))

/- demesne/demesnelaw09.TableWhole -/
abbrev demesnelaw09_TableWhole_T := Int → Int → Int → Bool → Bool → Bool → Int → Int → Int → Bool → Bool → Bool → Int → (Bool → AH → Prop) → AP
def demesnelaw09_TableWhole_G (f_demesnelaw09_awake : demesnelaw09_awake_T) (f_demesnelaw09_Purse : demesnelaw09_Purse_T) (f_table_Kernel : table_Kernel_T) (f_quota_Tree_Child : quota_Tree_Child_T) (f_table_Root : table_Root_T) (f_buddy_Buddy_Free : buddy_Buddy_Free_T) (f_table_Map : table_Map_T) (f_demesnelaw09_Used : demesnelaw09_Used_T) (f_table_Pages : table_Pages_T) (f_table_Query : table_Query_T) (_p0 : Int) (p1 : Int) (_p2 : Int) (p3 : Bool) (p4 : Bool) (p5 : Bool) (_p6 : Int) (p7 : Int) (_p8 : Int) (p9 : Bool) (p10 : Bool) (p11 : Bool) (p12 : Int) (Q : Bool → AH → Prop) (h : AH) : Prop :=
(∃ R1 : AH → Prop, (∀ h16, R1 h16 → 
(f_demesnelaw09_Purse (40 : Int) (40 : Int) (fun pt17 pt18 pt19 n20 b21 h22 =>
(bsel (!b21)
(Q false h22)
(f_table_Kernel pt17 pt18 pt19 n20 (fun n23 n24 h25 =>
(f_quota_Tree_Child pt19 (0 : Int) (IntKind.wrap .i64 ((1 : Int) + p12)) (fun n26 n27 h28 =>
(f_table_Root pt17 pt18 pt19 n26 n23 (fun n29 n30 h31 =>
(∃ R32 : AH → Prop, (∀ h33, R32 h33 → 
(f_buddy_Buddy_Free pt18 (fun n34 h35 =>
(f_table_Map pt17 pt18 pt19 n26 n29 p1 (1 : Int) p3 p4 p5 (fun n36 h37 =>
(bsel (n36 != (0 : Int))
(f_demesnelaw09_awake (fun b38 h39 =>
(bsel b38
(bsel (decide (p12 < (3 : Int)))
(bsel (n36 == (8 : Int))
(f_demesnelaw09_Used pt17 pt18 pt19 n26 (fun n40 h41 =>
(bsel (n40 == (1 : Int))
(f_buddy_Buddy_Free pt18 (fun n42 h43 =>
(bsel (n42 == n34)
(f_table_Pages pt17 pt18 pt19 n26 n29 (fun s44 h45 =>
(Q ((Int.ofNat s44.len) == (0 : Int)) h45)) h43)
(Q false h43))) h41)
(Q false h41))) h39)
(Q false h39))
(Q false h39))
(Q false h39))) h37)
(f_demesnelaw09_Used pt17 pt18 pt19 n26 (fun n46 h47 =>
(f_table_Map pt17 pt18 pt19 n26 n29 p7 (2 : Int) p9 p10 p11 (fun n48 h49 =>
(f_table_Query pt17 pt18 pt19 n26 n29 p1 (fun n50 b51 b52 b53 b54 h55 =>
(∃ R56 : AH → Prop, (∀ h57, R56 h57 → 
(bsel (n48 != (0 : Int))
(f_demesnelaw09_awake (fun b58 h59 =>
(bsel b58
(bsel (n48 == (8 : Int))
(f_demesnelaw09_Used pt17 pt18 pt19 n26 (fun n60 h61 =>
(bsel (n60 == (4 : Int))
(f_table_Pages pt17 pt18 pt19 n26 n29 (fun s62 h63 =>
(Q ((Int.ofNat s62.len) == (1 : Int)) h63)) h61)
(Q false h61))) h59)
(Q false h59))
(Q false h59))) h57)
(f_demesnelaw09_awake (fun b64 h65 =>
(bsel b64
(f_demesnelaw09_Used pt17 pt18 pt19 n26 (fun n66 h67 =>
(bsel (decide (n66 ≤ (IntKind.wrap .i64 ((1 : Int) + p12))))
(f_table_Pages pt17 pt18 pt19 n26 n29 (fun s68 h69 =>
(Q ((Int.ofNat s68.len) == (2 : Int)) h69)) h67)
(Q false h67))) h65)
(Q false h65))) h57))) ∧
(bsel (decide (p12 < (3 : Int)))
(Q false h55)
(bsel (n46 != (4 : Int))
(Q false h55)
(bsel (!b54)
(Q false h55)
(bsel (n50 != (1 : Int))
(Q false h55)
(bsel (!((b51 == p3) && ((b52 == p4) && ((b53 == p5) && true))))
(Q false h55)
(R56 h55)))))))) h49)) h47)) h37))) h35)) h33)) ∧
(bsel (n24 != (0 : Int))
(Q false h31)
(bsel (n30 != (0 : Int))
(Q false h31)
(R32 h31))))) h28)) h25)) h22))) h16)) ∧
(bsel (decide (p12 < (0 : Int)))
(f_demesnelaw09_awake (fun b2 h3 =>
(Q b2 h3)) h)
(bsel (decide (p12 > (10 : Int)))
(f_demesnelaw09_awake (fun b4 h5 =>
(Q b4 h5)) h)
(bsel (decide (p1 < (0 : Int)))
(f_demesnelaw09_awake (fun b6 h7 =>
(Q b6 h7)) h)
(bsel (decide (p1 ≥ (34359738368 : Int)))
(f_demesnelaw09_awake (fun b8 h9 =>
(Q b8 h9)) h)
(bsel (decide (p7 < (0 : Int)))
(f_demesnelaw09_awake (fun b10 h11 =>
(Q b10 h11)) h)
(bsel (decide (p7 ≥ (34359738368 : Int)))
(f_demesnelaw09_awake (fun b12 h13 =>
(Q b12 h13)) h)
(bsel (p1 == p7)
(f_demesnelaw09_awake (fun b14 h15 =>
(Q b14 h15)) h)
(R1 h)))))))))
def demesnelaw09_TableWhole_A : demesnelaw09_TableWhole_T := demesnelaw09_TableWhole_G demesnelaw09_awake_A demesnelaw09_Purse_A table_Kernel_A quota_Tree_Child_A table_Root_A buddy_Buddy_Free_A table_Map_A demesnelaw09_Used_A table_Pages_A table_Query_A
def demesnelaw09_TableWhole_W (f : demesnelaw09_TableWhole_T) : ArS [.agg [(.i .i64), (.i .i64), (.i .i64), .b, .b, .b], .agg [(.i .i64), (.i .i64), (.i .i64), .b, .b, .b], .c (.i .i64)] EnR := fun p0 p1 p2 p3 p4 p5 p6 p7 p8 p9 p10 p11 p12 K _Kp => f p0 p1 p2 p3 p4 p5 p6 p7 p8 p9 p10 p11 p12 (fun r0 => K (.bool r0))

/- demesne/demesnelaw09.same -/
abbrev demesnelaw09_same_T := Sl → Sl → (Bool → AH → Prop) → AP
def demesnelaw09_same_A (p0 : Sl) (p1 : Sl) (Q : Bool → AH → Prop) (h : AH) : Prop :=
(bsel ((Int.ofNat p0.len) != (Int.ofNat p1.len))
(Q false h)
(∃ I1 : Int → Nat → AH → Prop, (∃ m2, I1 (0 : Int) m2 h) ∧ ∀ x5 : Int, ∀ m2 h4, I1 x5 m2 h4 → 
(bsel (decide (x5 < (Int.ofNat p0.len)))
(onSome p0.a fun a6 =>
(inB x5 p0.len
(aI .i64 (Addr.add a6 (Int.toNat x5 * 1)) h4 fun n7 =>
(onSome p1.a fun a8 =>
(inB x5 p1.len
(aI .i64 (Addr.add a8 (Int.toNat x5 * 1)) h4 fun n9 =>
(bsel (n7 != n9)
(Q false h4)
(∃ m3, m3 < m2 ∧ I1 (IntKind.wrap .i64 (x5 + (1 : Int))) m3 h4))))))))
(Q true h4))))
def demesnelaw09_same_W (f : demesnelaw09_same_T) : ArS [.c .s, .c .s] EnR := fun p0 p1 K _Kp => f p0 p1 (fun r0 => K (.bool r0))

/- demesne/demesnelaw09.TablePlays -/
abbrev demesnelaw09_TablePlays_T := Int → Sl → (Bool → AH → Prop) → AP
def demesnelaw09_TablePlays_G (f_demesnelaw09_Purse : demesnelaw09_Purse_T) (f_demesnelaw09_awake : demesnelaw09_awake_T) (f_table_Kernel : table_Kernel_T) (f_quota_Tree_Child : quota_Tree_Child_T) (f_table_Root : table_Root_T) (f_demesneref09_Numbers : demesneref09_Numbers_T) (f_demesneref09_Tables : demesneref09_Tables_T) (f_demesnelaw09_does : demesnelaw09_does_T) (f_demesnelaw09_Used : demesnelaw09_Used_T) (f_buddy_Buddy_Free : buddy_Buddy_Free_T) (f_table_Pages : table_Pages_T) (f_demesnelaw09_same : demesnelaw09_same_T) (f_table_Drop : table_Drop_T) (p0 : Int) (p1 : Sl) (Q : Bool → AH → Prop) (h : AH) : Prop :=
(f_demesnelaw09_Purse (60 : Int) (60 : Int) (fun pt1 pt2 pt3 n4 b5 h6 =>
(∃ R7 : AH → Prop, (∀ h10, R7 h10 → 
(∃ R11 : AH → Prop, (∀ h12, R11 h12 → 
(f_table_Kernel pt1 pt2 pt3 n4 (fun n13 n14 h15 =>
(bsel (n14 != (0 : Int))
(Q false h15)
(f_quota_Tree_Child pt3 (0 : Int) (IntKind.wrap .i64 (p0 - (2 : Int))) (fun n16 n17 h18 =>
(f_table_Root pt1 pt2 pt3 n16 n13 (fun n19 n20 h21 =>
(∃ R22 : AH → Prop, (∀ h23, R22 h23 → 
(newA h23 (.cells #[] 67) fun b24 h25 =>
(∃ R26 : Sl → AH → Prop, (∀ s77 : Sl, ∀ h78, R26 s77 h78 → 
(f_table_Drop pt1 pt2 pt3 n16 n19 (fun n79 h80 =>
(bsel (decide ((Int.ofNat s77.len) > (0 : Int)))
(bsel (n79 == (11 : Int))
(Q true h80)
(bsel ((Int.ofNat s77.len) == (0 : Int))
(bsel (n79 == (0 : Int))
(f_demesnelaw09_Used pt1 pt2 pt3 n16 (fun n81 h82 =>
(Q (n81 == (0 : Int)) h82)) h80)
(Q false h80))
(Q false h80)))
(bsel ((Int.ofNat s77.len) == (0 : Int))
(bsel (n79 == (0 : Int))
(f_demesnelaw09_Used pt1 pt2 pt3 n16 (fun n83 h84 =>
(Q (n83 == (0 : Int)) h84)) h80)
(Q false h80))
(Q false h80)))) h78)) ∧
(∃ I27 : Sl → Int → Nat → AH → Prop, (∃ m28, I27 (Sl.mk (some (Addr.mk b24 0 none)) 0 0) (0 : Int) m28 h25) ∧ ∀ s31 : Sl, ∀ x32 : Int, ∀ m28 h30, I27 s31 x32 m28 h30 → 
(∃ R33 : AH → Prop, (∀ h34, R33 h34 → 
(onSome p1.a fun a35 =>
(inB x32 p1.len
(aI .i64 (Addr.add a35 (Int.toNat x32 * 6)) h34 fun n36 =>
(aI .i64 (Addr.add (Addr.add a35 (Int.toNat x32 * 6)) 1) h34 fun n37 =>
(aI .i64 (Addr.add (Addr.add a35 (Int.toNat x32 * 6)) 2) h34 fun n38 =>
(aB (Addr.add (Addr.add a35 (Int.toNat x32 * 6)) 3) h34 fun b39 =>
(aB (Addr.add (Addr.add a35 (Int.toNat x32 * 6)) 4) h34 fun b40 =>
(aB (Addr.add (Addr.add a35 (Int.toNat x32 * 6)) 5) h34 fun b41 =>
(f_demesneref09_Numbers s31 (fun s42 h43 =>
((aI .i64 (Addr.add a35 (Int.toNat x32 * 6)) h43 fun n44 =>
(aI .i64 (Addr.add (Addr.add a35 (Int.toNat x32 * 6)) 1) h43 fun n45 =>
(aI .i64 (Addr.add (Addr.add a35 (Int.toNat x32 * 6)) 2) h43 fun n46 =>
(aB (Addr.add (Addr.add a35 (Int.toNat x32 * 6)) 3) h43 fun b47 =>
(aB (Addr.add (Addr.add a35 (Int.toNat x32 * 6)) 4) h43 fun b48 =>
(aB (Addr.add (Addr.add a35 (Int.toNat x32 * 6)) 5) h43 fun b49 =>
(((.agg #[(.int .i64 n44), (.int .i64 n45), (.int .i64 n46), (.bool b47), (.bool b48), (.bool b49)]) : Value) = (.agg #[(.int .i64 n36), (.int .i64 n37), (.int .i64 n38), (.bool b39), (.bool b40), (.bool b41)])))))))) ∧
(f_demesneref09_Tables s42 (fun n50 h51 =>
((aI .i64 (Addr.add a35 (Int.toNat x32 * 6)) h51 fun n52 =>
(aI .i64 (Addr.add (Addr.add a35 (Int.toNat x32 * 6)) 1) h51 fun n53 =>
(aI .i64 (Addr.add (Addr.add a35 (Int.toNat x32 * 6)) 2) h51 fun n54 =>
(aB (Addr.add (Addr.add a35 (Int.toNat x32 * 6)) 3) h51 fun b55 =>
(aB (Addr.add (Addr.add a35 (Int.toNat x32 * 6)) 4) h51 fun b56 =>
(aB (Addr.add (Addr.add a35 (Int.toNat x32 * 6)) 5) h51 fun b57 =>
(((.agg #[(.int .i64 n52), (.int .i64 n53), (.int .i64 n54), (.bool b55), (.bool b56), (.bool b57)]) : Value) = (.agg #[(.int .i64 n36), (.int .i64 n37), (.int .i64 n38), (.bool b39), (.bool b40), (.bool b41)])))))))) ∧
(f_demesnelaw09_does pt1 pt2 pt3 n16 n19 s31 n36 n37 n38 b39 b40 b41 (IntKind.wrap .i64 ((IntKind.wrap .i64 (p0 - (2 : Int))) - n50)) (fun s58 b59 h60 =>
(bsel (!b59)
(Q false h60)
(f_demesnelaw09_Used pt1 pt2 pt3 n16 (fun n61 h62 =>
(f_demesneref09_Numbers s58 (fun s63 h64 =>
(f_demesneref09_Tables s63 (fun n65 h66 =>
(bsel (n61 != n65)
(Q false h66)
(f_buddy_Buddy_Free pt2 (fun n67 h68 =>
(f_demesnelaw09_Used pt1 pt2 pt3 n16 (fun n69 h70 =>
(bsel (n67 != (IntKind.wrap .i64 ((57 : Int) - n69)))
(Q false h70)
(f_table_Pages pt1 pt2 pt3 n16 n19 (fun s71 h72 =>
(f_demesneref09_Numbers s58 (fun s73 h74 =>
(f_demesnelaw09_same s71 s73 (fun b75 h76 =>
(bsel (!b75)
(Q false h76)
(∃ m29, m29 < m28 ∧ I27 s58 (IntKind.wrap .i64 (x32 + (1 : Int))) m29 h76))) h74)) h72)) h70))) h68)) h66))) h64)) h62)) h60))) h51))) h43))) h34)))))))))) ∧
(bsel (decide (x32 < (Int.ofNat p1.len)))
(bsel (decide (x32 < (30 : Int)))
(R33 h30)
(R26 s31 h30))
(R26 s31 h30))))))) ∧
(bsel (n17 != (0 : Int))
(Q false h21)
(bsel (n20 != (0 : Int))
(Q false h21)
(R22 h21))))) h18)) h15))) h12)) ∧
(bsel (decide (p0 < (3 : Int)))
(Q true h10)
(bsel (decide (p0 > (43 : Int)))
(Q true h10)
(R11 h10))))) ∧
(f_demesnelaw09_awake (fun b8 h9 =>
(bsel (!b8)
(Q false h9)
(bsel (!b5)
(Q false h9)
(R7 h9)))) h6))) h)
def demesnelaw09_TablePlays_A : demesnelaw09_TablePlays_T := demesnelaw09_TablePlays_G demesnelaw09_Purse_A demesnelaw09_awake_A table_Kernel_A quota_Tree_Child_A table_Root_A demesneref09_Numbers_A demesneref09_Tables_A demesnelaw09_does_A demesnelaw09_Used_A buddy_Buddy_Free_A table_Pages_A demesnelaw09_same_A table_Drop_A
def demesnelaw09_TablePlays_W (f : demesnelaw09_TablePlays_T) : ArS [.c (.i .i64), .c .s] EnR := fun p0 p1 K _Kp => f p0 p1 (fun r0 => K (.bool r0))

/- demesne/pte.Canonical -/
abbrev pte_Canonical_T := Int → (Bool → AH → Prop) → AP
def pte_Canonical_A (p0 : Int) (Q : Bool → AH → Prop) (h : AH) : Prop :=
(bsel ((Int.fdiv p0 (2 ^ (47 : Nat))) == (0 : Int))
(Q true h)
(Q ((Int.fdiv p0 (2 ^ (47 : Nat))) == (131071 : Int)) h))
def pte_Canonical_W (f : pte_Canonical_T) : ArS [.c (.i .u64)] EnR := fun p0 K _Kp => f p0 (fun r0 => K (.bool r0))

/- (*demesne/walk.walker).fault -/
abbrev walk_walker_fault_T := Option Addr → Int → (AH → Prop) → (Value → AP) → AP
def walk_walker_fault_A (p0 : Option Addr) (p1 : Int) (_Q : AH → Prop) (Kp : Value → AP) (h : AH) : Prop :=
(∃ R1 : Int → AH → Prop, (∀ x4 : Int, ∀ h5, R1 x4 h5 → 
(∃ R6 : Int → AH → Prop, (∀ x9 : Int, ∀ h10, R6 x9 h10 → 
(∃ R11 : Int → AH → Prop, (∀ x14 : Int, ∀ h15, R11 x14 h15 → 
(onSome p0 fun a16 =>
(aI .u64 (Addr.add a16 1) h15 fun n17 =>
(Kp (.iface 131 (.agg #[(.int .u64 n17), (.int .i64 x14), (.int .i64 (9 : Int))])) h15)))) ∧
(onSome p0 fun a12 =>
(aB (Addr.add (Addr.add a12 2) 2) h10 fun b13 =>
(bsel b13
(R11 (bits .or .i64 x9 (16 : Int)) h10)
(R11 x9 h10)))))) ∧
(onSome p0 fun a7 =>
(aB (Addr.add (Addr.add a7 2) 1) h5 fun b8 =>
(bsel b8
(R6 (bits .or .i64 x4 (4 : Int)) h5)
(R6 x4 h5)))))) ∧
(onSome p0 fun a2 =>
(aB (Addr.add a2 2) h fun b3 =>
(bsel b3
(R1 (bits .or .i64 p1 (2 : Int)) h)
(R1 p1 h)))))
def walk_walker_fault_W (f : walk_walker_fault_T) : ArS [.c .p, .c (.i .i64)] EnR := fun p0 p1 K Kp => f p0 p1 (K (.tuple #[])) Kp

/- demesne/pte.Reserved -/
abbrev pte_Reserved_T := Int → Int → (Bool → AH → Prop) → AP
def pte_Reserved_A (p0 : Int) (p1 : Int) (Q : Bool → AH → Prop) (h : AH) : Prop :=
(bsel ((bits .and .u64 p0 (1 : Int)) == (0 : Int))
(Q false h)
(bsel ((bits .and .u64 (Int.fdiv p0 (2 ^ (32 : Nat))) (1048575 : Int)) != (0 : Int))
(Q true h)
(bsel (decide (p1 ≥ (3 : Int)))
(Q ((bits .and .u64 (Int.fdiv p0 (2 ^ (7 : Nat))) (1 : Int)) == (1 : Int)) h)
(bsel (p1 == (2 : Int))
(bsel ((bits .and .u64 (Int.fdiv p0 (2 ^ (7 : Nat))) (1 : Int)) == (1 : Int))
(Q ((bits .and .u64 (Int.fdiv p0 (2 ^ (12 : Nat))) (511 : Int)) != (0 : Int)) h)
(Q false h))
(Q false h)))))
def pte_Reserved_W (f : pte_Reserved_T) : ArS [.c (.i .u64), .c (.i .i64)] EnR := fun p0 p1 K _Kp => f p0 p1 (fun r0 => K (.bool r0))

/- (*demesne/walk.walker).entry -/
abbrev walk_walker_entry_T := Option Addr → Int → Int → Int → (Int → Int → AH → Prop) → (Value → AP) → AP
def walk_walker_entry_G (f_ram_RAM_Load : ram_RAM_Load_T) (f_walk_walker_fault : walk_walker_fault_T) (f_pte_Reserved : pte_Reserved_T) (f_pte_Unpack : pte_Unpack_T) (p0 : Option Addr) (p1 : Int) (p2 : Int) (p3 : Int) (Q : Int → Int → AH → Prop) (Kp : Value → AP) (h : AH) : Prop :=
(onSome p0 fun a1 =>
(aP a1 h fun pt2 =>
(f_ram_RAM_Load pt2 (IntKind.wrap .u64 ((IntKind.wrap .u64 ((IntKind.wrap .u64 p1) * (4096 : Int))) + (IntKind.wrap .u64 (IntKind.wrap .i64 ((8 : Int) * p2))))) (8 : Int) (fun n3 n4 h5 =>
(∃ R6 : AH → Prop, (∀ h7, R6 h7 → 
(∃ R8 : AH → Prop, (∀ h12, R8 h12 → 
(∃ R13 : AH → Prop, (∀ h19, R13 h19 → 
(f_pte_Unpack n3 (fun b20 b21 b22 b23 b24 b25 b26 b27 n28 h29 =>
(∃ R30 : AH → Prop, (∀ h37, R30 h37 → 
(∃ R38 : AH → Prop, (∀ h45, R38 h45 → 
(onSome p0 fun a46 =>
(aB (Addr.add (Addr.add a46 5) 2) h45 fun b47 =>
(bsel b47
(onSome p0 fun a48 =>
(aC (Addr.add (Addr.add a48 5) 2) (.bool (!b27)) h45 fun h49 =>
(Q n3 (IntKind.wrap .u64 ((IntKind.wrap .u64 ((IntKind.wrap .u64 p1) * (4096 : Int))) + (IntKind.wrap .u64 (IntKind.wrap .i64 ((8 : Int) * p2))))) h49)))
(onSome p0 fun a50 =>
(aC (Addr.add (Addr.add a50 5) 2) (.bool false) h45 fun h51 =>
(Q n3 (IntKind.wrap .u64 ((IntKind.wrap .u64 ((IntKind.wrap .u64 p1) * (4096 : Int))) + (IntKind.wrap .u64 (IntKind.wrap .i64 ((8 : Int) * p2))))) h51))))))) ∧
(onSome p0 fun a39 =>
(aB (Addr.add (Addr.add a39 5) 1) h37 fun b40 =>
(bsel b40
(onSome p0 fun a41 =>
(aC (Addr.add (Addr.add a41 5) 1) (.bool b22) h37 fun h42 =>
(R38 h42)))
(onSome p0 fun a43 =>
(aC (Addr.add (Addr.add a43 5) 1) (.bool false) h37 fun h44 =>
(R38 h44)))))))) ∧
(onSome p0 fun a31 =>
(aB (Addr.add a31 5) h29 fun b32 =>
(bsel b32
(onSome p0 fun a33 =>
(aC (Addr.add a33 5) (.bool b21) h29 fun h34 =>
(R30 h34)))
(onSome p0 fun a35 =>
(aC (Addr.add a35 5) (.bool false) h29 fun h36 =>
(R30 h36)))))))) h19)) ∧
(f_pte_Reserved n3 p3 (fun b14 h15 =>
(bsel b14
(f_walk_walker_fault p0 (9 : Int) (fun h16 =>
(R13 h16)) (fun v17 h18 => (Kp v17 h18)) h15)
(R13 h15))) h12))) ∧
(bsel ((bits .and .u64 n3 (1 : Int)) == (0 : Int))
(f_walk_walker_fault p0 (0 : Int) (fun h9 =>
(R8 h9)) (fun v10 h11 => (Kp v10 h11)) h7)
(R8 h7)))) ∧
(bsel (n4 != (0 : Int))
(Kp (.iface 131 (.agg #[(.int .u64 (0 : Int)), (.int .i64 (0 : Int)), (.int .i64 n4)])) h5)
(R6 h5)))) h)))
def walk_walker_entry_A : walk_walker_entry_T := walk_walker_entry_G ram_RAM_Load_A walk_walker_fault_A pte_Reserved_A pte_Unpack_A
def walk_walker_entry_W (f : walk_walker_entry_T) : ArS [.c .p, .c (.i .i64), .c (.i .i64), .c (.i .i64)] EnR := fun p0 p1 p2 p3 K Kp => f p0 p1 p2 p3 (fun r0 r1 => K (.tuple #[(.int .u64 r0), (.int .u64 r1)])) Kp

/- demesne/walk.May -/
abbrev walk_May_T := Bool → Bool → Bool → Bool → Bool → Bool → (Bool → AH → Prop) → AP
def walk_May_A (p0 : Bool) (p1 : Bool) (p2 : Bool) (p3 : Bool) (p4 : Bool) (p5 : Bool) (Q : Bool → AH → Prop) (h : AH) : Prop :=
(bsel p3
(bsel (!p0)
(Q false h)
(bsel p4
(bsel (!p1)
(Q false h)
(bsel p5
(Q (!(!p2)) h)
(Q true h)))
(bsel p5
(Q (!(!p2)) h)
(Q true h))))
(bsel p4
(bsel (!p1)
(Q false h)
(bsel p5
(Q (!(!p2)) h)
(Q true h)))
(bsel p5
(Q (!(!p2)) h)
(Q true h))))
def walk_May_W (f : walk_May_T) : ArS [.agg [.b, .b, .b], .agg [.b, .b, .b]] EnR := fun p0 p1 p2 p3 p4 p5 K _Kp => f p0 p1 p2 p3 p4 p5 (fun r0 => K (.bool r0))

/- demesne/walk.mark -/
abbrev walk_mark_T := Option Addr → Sl → Bool → (AH → Prop) → AP
def walk_mark_G (f_ram_RAM_Load : ram_RAM_Load_T) (f_ram_RAM_Store : ram_RAM_Store_T) (p0 : Option Addr) (p1 : Sl) (p2 : Bool) (Q : AH → Prop) (h : AH) : Prop :=
(∃ I1 : Int → Nat → AH → Prop, (∃ m2, I1 (0 : Int) m2 h) ∧ ∀ x5 : Int, ∀ m2 h4, I1 x5 m2 h4 → 
(bsel (decide (x5 < (Int.ofNat p1.len)))
(∃ R6 : AH → Prop, (∀ h17, R6 h17 → 
(∃ m3, m3 < m2 ∧ I1 (IntKind.wrap .i64 (x5 + (1 : Int))) m3 h17)) ∧
(onSome p1.a fun a7 =>
(inB x5 p1.len
(aI .u64 (Addr.add a7 (Int.toNat x5 * 1)) h4 fun n8 =>
(f_ram_RAM_Load p0 n8 (8 : Int) (fun n9 n10 h11 =>
(∃ R12 : Int → AH → Prop, (∀ x13 : Int, ∀ h14, R12 x13 h14 → 
(bsel (x13 != n9)
(f_ram_RAM_Store p0 n8 (8 : Int) x13 (fun n15 h16 =>
(R6 h16)) h14)
(R6 h14))) ∧
(bsel p2
(bsel (x5 == (IntKind.wrap .i64 ((Int.ofNat p1.len) - (1 : Int))))
(R12 (bits .or .u64 (bits .or .u64 n9 (32 : Int)) (64 : Int)) h11)
(R12 (bits .or .u64 n9 (32 : Int)) h11))
(R12 (bits .or .u64 n9 (32 : Int)) h11)))) h4)))))
(Q h4)))
def walk_mark_A : walk_mark_T := walk_mark_G ram_RAM_Load_A ram_RAM_Store_A
def walk_mark_W (f : walk_mark_T) : ArS [.c .p, .c .s, .c .b] EnR := fun p0 p1 p2 K _Kp => f p0 p1 p2 (K (.tuple #[]))

/- demesne/walk.Walk$1: where nothing panics; where it recovers -/
abbrev walk_Walk_1_Tn := Option Addr → Option Addr → Option Addr → AP → AP
def walk_Walk_1_nA (_p0 : Option Addr) (_p1 : Option Addr) (_p2 : Option Addr) (K : AP) (h : AH) : Prop :=
(K h)
abbrev walk_Walk_1_Tp := Option Addr → Option Addr → Option Addr → Int → Int → Int → AP → AP
def walk_Walk_1_pA (p0 : Option Addr) (p1 : Option Addr) (p2 : Option Addr) (y0 : Int) (y1 : Int) (y2 : Int) (K : AP) (h : AH) : Prop :=
(onSome p0 fun a1 =>
(aC a1 (.int .i64 (0 : Int)) h fun h2 =>
(aC (Addr.add a1 1) (.bool false) h2 fun h3 =>
(aC (Addr.add a1 2) (.bool false) h3 fun h4 =>
(aC (Addr.add a1 3) (.bool false) h4 fun h5 =>
(aC (Addr.add a1 4) (.bool false) h5 fun h6 =>
(aC (Addr.add a1 5) (.bool false) h6 fun h7 =>
(aC (Addr.add a1 6) (.bool false) h7 fun h8 =>
(onSome p1 fun a9 =>
(aC a9 (.int .u64 y0) h8 fun h10 =>
(aC (Addr.add a9 1) (.int .i64 y1) h10 fun h11 =>
(onSome p2 fun a12 =>
(aC a12 (.int .i64 y2) h11 fun h13 =>
(K h13))))))))))))))
abbrev walk_Walk_1_Tv := Option Addr → Option Addr → Option Addr → Value → AP → AP
def walk_Walk_1_vA (f_p : walk_Walk_1_Tp) : walk_Walk_1_Tv := fun p0 p1 p2 v K h => dpS [.c .p, .c .p, .c .p] 131 [(.i .u64), (.i .i64), (.i .i64)] f_p [(.pointer p0), (.pointer p1), (.pointer p2)] v K h
/- demesne/walk.Walk -/
abbrev walk_Walk_T := Option Addr → Int → Int → Bool → Bool → Bool → (Int → Bool → Bool → Bool → Bool → Bool → Bool → Int → Int → Int → AH → Prop) → AP
def walk_Walk_G (f_pte_Canonical : pte_Canonical_T) (f_ram_RAM_Has : ram_RAM_Has_T) (f_pte_Split : pte_Split_T) (f_walk_walker_entry : walk_walker_entry_T) (f_pte_Unpack : pte_Unpack_T) (f_walk_May : walk_May_T) (f_walk_walker_fault : walk_walker_fault_T) (f_walk_mark : walk_mark_T) (f_walk_Walk_1_n : walk_Walk_1_Tn) (f_walk_Walk_1_v : walk_Walk_1_Tv) (p0 : Option Addr) (p1 : Int) (p2 : Int) (p3 : Bool) (p4 : Bool) (p5 : Bool) (Q : Int → Bool → Bool → Bool → Bool → Bool → Bool → Int → Int → Int → AH → Prop) (h : AH) : Prop :=
(newA h (.cells #[(.int .i64 (0 : Int)), (.bool false), (.bool false), (.bool false), (.bool false), (.bool false), (.bool false)] 79) fun b1 h2 =>
(newA h2 (.cells #[(.int .u64 (0 : Int)), (.int .i64 (0 : Int))] 81) fun b3 h4 =>
(newA h4 (.cells #[(.int .i64 (0 : Int))] 24) fun b5 h6 =>
(f_pte_Canonical p2 (fun b7 h8 =>
(bsel (!b7)
(aC (Addr.mk b1 0 none) (.int .i64 (0 : Int)) h8 fun h9 =>
(aC (Addr.add (Addr.mk b1 0 none) 1) (.bool false) h9 fun h10 =>
(aC (Addr.add (Addr.mk b1 0 none) 2) (.bool false) h10 fun h11 =>
(aC (Addr.add (Addr.mk b1 0 none) 3) (.bool false) h11 fun h12 =>
(aC (Addr.add (Addr.mk b1 0 none) 4) (.bool false) h12 fun h13 =>
(aC (Addr.add (Addr.mk b1 0 none) 5) (.bool false) h13 fun h14 =>
(aC (Addr.add (Addr.mk b1 0 none) 6) (.bool false) h14 fun h15 =>
(aC (Addr.mk b3 0 none) (.int .u64 (0 : Int)) h15 fun h16 =>
(aC (Addr.add (Addr.mk b3 0 none) 1) (.int .i64 (0 : Int)) h16 fun h17 =>
(aC (Addr.mk b5 0 none) (.int .i64 (1 : Int)) h17 fun h18 =>
(f_walk_Walk_1_n (some (Addr.mk b1 0 none)) (some (Addr.mk b3 0 none)) (some (Addr.mk b5 0 none)) (fun h19 =>
(aI .i64 (Addr.mk b1 0 none) h19 fun n20 =>
(aB (Addr.add (Addr.mk b1 0 none) 1) h19 fun b21 =>
(aB (Addr.add (Addr.mk b1 0 none) 2) h19 fun b22 =>
(aB (Addr.add (Addr.mk b1 0 none) 3) h19 fun b23 =>
(aB (Addr.add (Addr.mk b1 0 none) 4) h19 fun b24 =>
(aB (Addr.add (Addr.mk b1 0 none) 5) h19 fun b25 =>
(aB (Addr.add (Addr.mk b1 0 none) 6) h19 fun b26 =>
(aI .u64 (Addr.mk b3 0 none) h19 fun n27 =>
(aI .i64 (Addr.add (Addr.mk b3 0 none) 1) h19 fun n28 =>
(aI .i64 (Addr.mk b5 0 none) h19 fun n29 =>
(Q n20 b21 b22 b23 b24 b25 b26 n27 n28 n29 h19)))))))))))) h18)))))))))))
(f_ram_RAM_Has p0 p1 (fun b30 h31 =>
(bsel (!b30)
(aC (Addr.mk b1 0 none) (.int .i64 (0 : Int)) h31 fun h32 =>
(aC (Addr.add (Addr.mk b1 0 none) 1) (.bool false) h32 fun h33 =>
(aC (Addr.add (Addr.mk b1 0 none) 2) (.bool false) h33 fun h34 =>
(aC (Addr.add (Addr.mk b1 0 none) 3) (.bool false) h34 fun h35 =>
(aC (Addr.add (Addr.mk b1 0 none) 4) (.bool false) h35 fun h36 =>
(aC (Addr.add (Addr.mk b1 0 none) 5) (.bool false) h36 fun h37 =>
(aC (Addr.add (Addr.mk b1 0 none) 6) (.bool false) h37 fun h38 =>
(aC (Addr.mk b3 0 none) (.int .u64 (0 : Int)) h38 fun h39 =>
(aC (Addr.add (Addr.mk b3 0 none) 1) (.int .i64 (0 : Int)) h39 fun h40 =>
(aC (Addr.mk b5 0 none) (.int .i64 (2 : Int)) h40 fun h41 =>
(f_walk_Walk_1_n (some (Addr.mk b1 0 none)) (some (Addr.mk b3 0 none)) (some (Addr.mk b5 0 none)) (fun h42 =>
(aI .i64 (Addr.mk b1 0 none) h42 fun n43 =>
(aB (Addr.add (Addr.mk b1 0 none) 1) h42 fun b44 =>
(aB (Addr.add (Addr.mk b1 0 none) 2) h42 fun b45 =>
(aB (Addr.add (Addr.mk b1 0 none) 3) h42 fun b46 =>
(aB (Addr.add (Addr.mk b1 0 none) 4) h42 fun b47 =>
(aB (Addr.add (Addr.mk b1 0 none) 5) h42 fun b48 =>
(aB (Addr.add (Addr.mk b1 0 none) 6) h42 fun b49 =>
(aI .u64 (Addr.mk b3 0 none) h42 fun n50 =>
(aI .i64 (Addr.add (Addr.mk b3 0 none) 1) h42 fun n51 =>
(aI .i64 (Addr.mk b5 0 none) h42 fun n52 =>
(Q n43 b44 b45 b46 b47 b48 b49 n50 n51 n52 h42)))))))))))) h41)))))))))))
(newA h31 (.cells #[(.pointer p0), (.int .u64 p2), (.bool p3), (.bool p4), (.bool p5), (.bool true), (.bool true), (.bool true)] 135) fun b53 h54 =>
(f_pte_Split p2 (fun n55 n56 n57 n58 n59 h60 =>
(newA h60 (.cells #[(.int .i64 (0 : Int)), (.int .i64 (0 : Int)), (.int .i64 (0 : Int)), (.int .i64 (0 : Int))] 110) fun b61 h62 =>
(aC (Addr.mk b61 0 none) (.int .i64 n55) h62 fun h63 =>
(aC (Addr.add (Addr.mk b61 0 none) 1) (.int .i64 n56) h63 fun h64 =>
(aC (Addr.add (Addr.mk b61 0 none) 2) (.int .i64 n57) h64 fun h65 =>
(aC (Addr.add (Addr.mk b61 0 none) 3) (.int .i64 n58) h65 fun h66 =>
(∃ R67 : Sl → AH → Prop, (∀ s154 : Sl, ∀ h155, R67 s154 h155 → 
(f_walk_mark p0 s154 p3 (fun h156 =>
(aI .i64 (Addr.mk b1 0 none) h156 fun n157 =>
(aB (Addr.add (Addr.mk b1 0 none) 1) h156 fun b158 =>
(aB (Addr.add (Addr.mk b1 0 none) 2) h156 fun b159 =>
(aB (Addr.add (Addr.mk b1 0 none) 3) h156 fun b160 =>
(aB (Addr.add (Addr.mk b1 0 none) 4) h156 fun b161 =>
(aB (Addr.add (Addr.mk b1 0 none) 5) h156 fun b162 =>
(aB (Addr.add (Addr.mk b1 0 none) 6) h156 fun b163 =>
(aC (Addr.mk b1 0 none) (.int .i64 n157) h156 fun h164 =>
(aC (Addr.add (Addr.mk b1 0 none) 1) (.bool b158) h164 fun h165 =>
(aC (Addr.add (Addr.mk b1 0 none) 2) (.bool b159) h165 fun h166 =>
(aC (Addr.add (Addr.mk b1 0 none) 3) (.bool b160) h166 fun h167 =>
(aC (Addr.add (Addr.mk b1 0 none) 4) (.bool b161) h167 fun h168 =>
(aC (Addr.add (Addr.mk b1 0 none) 5) (.bool b162) h168 fun h169 =>
(aC (Addr.add (Addr.mk b1 0 none) 6) (.bool b163) h169 fun h170 =>
(aC (Addr.mk b3 0 none) (.int .u64 (0 : Int)) h170 fun h171 =>
(aC (Addr.add (Addr.mk b3 0 none) 1) (.int .i64 (0 : Int)) h171 fun h172 =>
(aC (Addr.mk b5 0 none) (.int .i64 (0 : Int)) h172 fun h173 =>
(f_walk_Walk_1_n (some (Addr.mk b1 0 none)) (some (Addr.mk b3 0 none)) (some (Addr.mk b5 0 none)) (fun h174 =>
(aI .i64 (Addr.mk b1 0 none) h174 fun n175 =>
(aB (Addr.add (Addr.mk b1 0 none) 1) h174 fun b176 =>
(aB (Addr.add (Addr.mk b1 0 none) 2) h174 fun b177 =>
(aB (Addr.add (Addr.mk b1 0 none) 3) h174 fun b178 =>
(aB (Addr.add (Addr.mk b1 0 none) 4) h174 fun b179 =>
(aB (Addr.add (Addr.mk b1 0 none) 5) h174 fun b180 =>
(aB (Addr.add (Addr.mk b1 0 none) 6) h174 fun b181 =>
(aI .u64 (Addr.mk b3 0 none) h174 fun n182 =>
(aI .i64 (Addr.add (Addr.mk b3 0 none) 1) h174 fun n183 =>
(aI .i64 (Addr.mk b5 0 none) h174 fun n184 =>
(Q n175 b176 b177 b178 b179 b180 b181 n182 n183 n184 h174)))))))))))) h173))))))))))))))))))) h155)) ∧
(∃ I68 : Sl → Int → Int → Nat → AH → Prop, (∃ m69, I68 Sl.nil p1 (4 : Int) m69 h66) ∧ ∀ s72 : Sl, ∀ x73 : Int, ∀ x74 : Int, ∀ m69 h71, I68 s72 x73 x74 m69 h71 → 
(bsel (decide (x74 ≥ (1 : Int)))
(inB (IntKind.wrap .i64 ((4 : Int) - x74)) 4
(aI .i64 (Addr.add (Addr.mk b61 0 none) (Int.toNat (IntKind.wrap .i64 ((4 : Int) - x74)) * 1)) h71 fun n75 =>
(f_walk_walker_entry (some (Addr.mk b53 0 none)) x73 n75 x74 (fun n76 n77 h78 =>
(newA h78 (.cells #[(.int .u64 n77)] 75) fun b92 h93 =>
(apA 1 8 #[(.int .u64 (0 : Int))] 75 s72 (Sl.mk (some (Addr.mk b92 0 none)) 1 1) h93 fun s94 h95 =>
(f_pte_Unpack n76 (fun b96 b97 b98 b99 b100 b101 b102 b103 n104 h105 =>
(∃ R106 : AH → Prop, (∀ h107, R106 h107 → 
(∃ R108 : AH → Prop, (∀ h128, R108 h128 → 
(aB (Addr.add (Addr.mk b53 0 none) 5) h128 fun b129 =>
(aB (Addr.add (Addr.add (Addr.mk b53 0 none) 5) 1) h128 fun b130 =>
(aB (Addr.add (Addr.add (Addr.mk b53 0 none) 5) 2) h128 fun b131 =>
(bsel b100
(aC (Addr.mk b1 0 none) (.int .i64 n104) h128 fun h132 =>
(aC (Addr.add (Addr.mk b1 0 none) 1) (.bool b129) h132 fun h133 =>
(aC (Addr.add (Addr.mk b1 0 none) 2) (.bool b130) h133 fun h134 =>
(aC (Addr.add (Addr.mk b1 0 none) 3) (.bool b131) h134 fun h135 =>
(aC (Addr.add (Addr.mk b1 0 none) 4) (.bool b102) h135 fun h136 =>
(aC (Addr.add (Addr.mk b1 0 none) 5) (.bool (x74 == (2 : Int))) h136 fun h137 =>
(aC (Addr.add (Addr.mk b1 0 none) 6) (.bool true) h137 fun h138 =>
(aB (Addr.add (Addr.mk b1 0 none) 5) h138 fun b139 =>
(bsel b139
(aI .i64 (Addr.mk b1 0 none) h138 fun n140 =>
(aI .i64 (Addr.add (Addr.mk b61 0 none) 3) h138 fun n141 =>
(aC (Addr.mk b1 0 none) (.int .i64 (IntKind.wrap .i64 (n140 + n141))) h138 fun h142 =>
(R67 s94 h142))))
(R67 s94 h138))))))))))
(aC (Addr.mk b1 0 none) (.int .i64 n104) h128 fun h143 =>
(aC (Addr.add (Addr.mk b1 0 none) 1) (.bool b129) h143 fun h144 =>
(aC (Addr.add (Addr.mk b1 0 none) 2) (.bool b130) h144 fun h145 =>
(aC (Addr.add (Addr.mk b1 0 none) 3) (.bool b131) h145 fun h146 =>
(aC (Addr.add (Addr.mk b1 0 none) 4) (.bool b102) h146 fun h147 =>
(aC (Addr.add (Addr.mk b1 0 none) 5) (.bool (x74 == (2 : Int))) h147 fun h148 =>
(aC (Addr.add (Addr.mk b1 0 none) 6) (.bool p3) h148 fun h149 =>
(aB (Addr.add (Addr.mk b1 0 none) 5) h149 fun b150 =>
(bsel b150
(aI .i64 (Addr.mk b1 0 none) h149 fun n151 =>
(aI .i64 (Addr.add (Addr.mk b61 0 none) 3) h149 fun n152 =>
(aC (Addr.mk b1 0 none) (.int .i64 (IntKind.wrap .i64 (n151 + n152))) h149 fun h153 =>
(R67 s94 h153))))
(R67 s94 h149))))))))))))))) ∧
(aB (Addr.add (Addr.mk b53 0 none) 5) h107 fun b109 =>
(aB (Addr.add (Addr.add (Addr.mk b53 0 none) 5) 1) h107 fun b110 =>
(aB (Addr.add (Addr.add (Addr.mk b53 0 none) 5) 2) h107 fun b111 =>
(f_walk_May b109 b110 b111 p3 p4 p5 (fun b112 h113 =>
(bsel (!b112)
(f_walk_walker_fault (some (Addr.mk b53 0 none)) (1 : Int) (fun h114 =>
(R108 h114)) (fun v115 h116 => (f_walk_Walk_1_v (some (Addr.mk b1 0 none)) (some (Addr.mk b3 0 none)) (some (Addr.mk b5 0 none)) v115 (fun h117 =>
(aI .i64 (Addr.mk b1 0 none) h117 fun n118 =>
(aB (Addr.add (Addr.mk b1 0 none) 1) h117 fun b119 =>
(aB (Addr.add (Addr.mk b1 0 none) 2) h117 fun b120 =>
(aB (Addr.add (Addr.mk b1 0 none) 3) h117 fun b121 =>
(aB (Addr.add (Addr.mk b1 0 none) 4) h117 fun b122 =>
(aB (Addr.add (Addr.mk b1 0 none) 5) h117 fun b123 =>
(aB (Addr.add (Addr.mk b1 0 none) 6) h117 fun b124 =>
(aI .u64 (Addr.mk b3 0 none) h117 fun n125 =>
(aI .i64 (Addr.add (Addr.mk b3 0 none) 1) h117 fun n126 =>
(aI .i64 (Addr.mk b5 0 none) h117 fun n127 =>
(Q n118 b119 b120 b121 b122 b123 b124 n125 n126 n127 h117)))))))))))) h116)) h113)
(R108 h113))) h107)))))) ∧
(bsel (decide (x74 > (1 : Int)))
(bsel (x74 == (2 : Int))
(bsel (!b101)
(∃ m70, m70 < m69 ∧ I68 s94 n104 (IntKind.wrap .i64 (x74 - (1 : Int))) m70 h105)
(R106 h105))
(∃ m70, m70 < m69 ∧ I68 s94 n104 (IntKind.wrap .i64 (x74 - (1 : Int))) m70 h105))
(R106 h105)))) h95)))) (fun v79 h80 => (f_walk_Walk_1_v (some (Addr.mk b1 0 none)) (some (Addr.mk b3 0 none)) (some (Addr.mk b5 0 none)) v79 (fun h81 =>
(aI .i64 (Addr.mk b1 0 none) h81 fun n82 =>
(aB (Addr.add (Addr.mk b1 0 none) 1) h81 fun b83 =>
(aB (Addr.add (Addr.mk b1 0 none) 2) h81 fun b84 =>
(aB (Addr.add (Addr.mk b1 0 none) 3) h81 fun b85 =>
(aB (Addr.add (Addr.mk b1 0 none) 4) h81 fun b86 =>
(aB (Addr.add (Addr.mk b1 0 none) 5) h81 fun b87 =>
(aB (Addr.add (Addr.mk b1 0 none) 6) h81 fun b88 =>
(aI .u64 (Addr.mk b3 0 none) h81 fun n89 =>
(aI .i64 (Addr.add (Addr.mk b3 0 none) 1) h81 fun n90 =>
(aI .i64 (Addr.mk b5 0 none) h81 fun n91 =>
(Q n82 b83 b84 b85 b86 b87 b88 n89 n90 n91 h81)))))))))))) h80)) h71)))
(R67 s72 h71)))))))))) h54)))) h8))) h6))))
def walk_Walk_A : walk_Walk_T := walk_Walk_G pte_Canonical_A ram_RAM_Has_A pte_Split_A walk_walker_entry_A pte_Unpack_A walk_May_A walk_walker_fault_A walk_mark_A walk_Walk_1_nA (walk_Walk_1_vA walk_Walk_1_pA)
def walk_Walk_W (f : walk_Walk_T) : ArS [.c .p, .c (.i .i64), .c (.i .u64), .agg [.b, .b, .b]] EnR := fun p0 p1 p2 p3 p4 p5 K _Kp => f p0 p1 p2 p3 p4 p5 (fun r0 r1 r2 r3 r4 r5 r6 r7 r8 r9 => K (.tuple #[(.agg #[(.int .i64 r0), (.bool r1), (.bool r2), (.bool r3), (.bool r4), (.bool r5), (.bool r6)]), (.agg #[(.int .u64 r7), (.int .i64 r8)]), (.int .i64 r9)]))

/- demesne/demesnelaw09.TableWalks -/
abbrev demesnelaw09_TableWalks_T := Sl → Int → Bool → Bool → Bool → (Bool → AH → Prop) → AP
def demesnelaw09_TableWalks_G (f_demesnelaw09_Purse : demesnelaw09_Purse_T) (f_demesnelaw09_awake : demesnelaw09_awake_T) (f_table_Kernel : table_Kernel_T) (f_table_Root : table_Root_T) (f_demesnelaw09_does : demesnelaw09_does_T) (f_walk_Walk : walk_Walk_T) (f_pte_Canonical : pte_Canonical_T) (f_demesneref09_Find : demesneref09_Find_T) (f_walk_May : walk_May_T) (p0 : Sl) (p1 : Int) (p2 : Bool) (p3 : Bool) (p4 : Bool) (Q : Bool → AH → Prop) (h : AH) : Prop :=
(f_demesnelaw09_Purse (90 : Int) (90 : Int) (fun pt1 pt2 pt3 n4 b5 h6 =>
(∃ R7 : AH → Prop, (∀ h10, R7 h10 → 
(f_table_Kernel pt1 pt2 pt3 n4 (fun n11 n12 h13 =>
(f_table_Root pt1 pt2 pt3 n4 n11 (fun n14 n15 h16 =>
(∃ R17 : AH → Prop, (∀ h18, R17 h18 → 
(newA h18 (.cells #[] 67) fun b19 h20 =>
(∃ R21 : Sl → AH → Prop, (∀ s38 : Sl, ∀ h39, R21 s38 h39 → 
(f_walk_Walk pt1 n14 p1 p2 p3 p4 (fun n40 b41 b42 b43 b44 b45 b46 n47 n48 n49 h50 =>
(f_pte_Canonical p1 (fun b51 h52 =>
(bsel (!b51)
(Q (n49 == (1 : Int)) h52)
(bsel (decide (p1 < (140737488355328 : Int)))
(f_demesneref09_Find s38 (IntKind.wrap .i64 (Int.fdiv p1 (2 ^ (12 : Nat)))) (fun n53 n54 b55 b56 b57 b58 h59 =>
(bsel b58
(f_walk_May b55 b56 b57 p2 p3 p4 (fun b60 h61 =>
(bsel b60
(bsel (n49 == (0 : Int))
(Q ((n40 == n54) && (((b41 == b55) && ((b42 == b56) && ((b43 == b57) && true))) && ((b44 == false) && ((b45 == false) && ((b46 == p2) && true))))) h61)
(Q false h61))
(bsel (n49 == (9 : Int))
(bsel (n47 == p1)
(Q (((bits .and .i64 n48 (1 : Int)) == (1 : Int)) == b58) h61)
(Q false h61))
(Q false h61)))) h59)
(bsel (n49 == (9 : Int))
(bsel (n47 == p1)
(Q (((bits .and .i64 n48 (1 : Int)) == (1 : Int)) == b58) h59)
(Q false h59))
(Q false h59)))) h52)
(bsel (decide ((Int.fdiv (IntKind.wrap .u64 (p1 - (18446603336221196288 : Int))) (2 ^ (12 : Nat))) ≥ (512 : Int)))
(bsel (n49 == (9 : Int))
(Q (n47 == p1) h52)
(Q false h52))
(bsel p3
(bsel (n49 == (9 : Int))
(Q (n47 == p1) h52)
(Q false h52))
(bsel p4
(bsel (n49 == (9 : Int))
(Q (n47 == p1) h52)
(Q false h52))
(bsel (n49 == (0 : Int))
(Q ((n40 == (IntKind.wrap .i64 (Int.fdiv (IntKind.wrap .u64 (p1 - (18446603336221196288 : Int))) (2 ^ (12 : Nat))))) && (((b41 == true) && ((b42 == false) && ((b43 == false) && true))) && ((b44 == true) && ((b45 == true) && ((b46 == p2) && true))))) h52)
(Q false h52)))))))) h50)) h39)) ∧
(∃ I22 : Sl → Int → Nat → AH → Prop, (∃ m23, I22 (Sl.mk (some (Addr.mk b19 0 none)) 0 0) (0 : Int) m23 h20) ∧ ∀ s26 : Sl, ∀ x27 : Int, ∀ m23 h25, I22 s26 x27 m23 h25 → 
(bsel (decide (x27 < (Int.ofNat p0.len)))
(bsel (decide (x27 < (20 : Int)))
(onSome p0.a fun a28 =>
(inB x27 p0.len
(aI .i64 (Addr.add a28 (Int.toNat x27 * 6)) h25 fun n29 =>
(aI .i64 (Addr.add (Addr.add a28 (Int.toNat x27 * 6)) 1) h25 fun n30 =>
(aI .i64 (Addr.add (Addr.add a28 (Int.toNat x27 * 6)) 2) h25 fun n31 =>
(aB (Addr.add (Addr.add a28 (Int.toNat x27 * 6)) 3) h25 fun b32 =>
(aB (Addr.add (Addr.add a28 (Int.toNat x27 * 6)) 4) h25 fun b33 =>
(aB (Addr.add (Addr.add a28 (Int.toNat x27 * 6)) 5) h25 fun b34 =>
(f_demesnelaw09_does pt1 pt2 pt3 n4 n14 s26 n29 n30 n31 b32 b33 b34 (100 : Int) (fun s35 b36 h37 =>
(bsel (!b36)
(Q false h37)
(∃ m24, m24 < m23 ∧ I22 s35 (IntKind.wrap .i64 (x27 + (1 : Int))) m24 h37))) h25)))))))))
(R21 s26 h25))
(R21 s26 h25)))))) ∧
(bsel (n12 != (0 : Int))
(Q false h16)
(bsel (n15 != (0 : Int))
(Q false h16)
(R17 h16))))) h13)) h10)) ∧
(f_demesnelaw09_awake (fun b8 h9 =>
(bsel (!b8)
(Q false h9)
(bsel (!b5)
(Q false h9)
(R7 h9)))) h6))) h)
def demesnelaw09_TableWalks_A : demesnelaw09_TableWalks_T := demesnelaw09_TableWalks_G demesnelaw09_Purse_A demesnelaw09_awake_A table_Kernel_A table_Root_A demesnelaw09_does_A walk_Walk_A pte_Canonical_A demesneref09_Find_A walk_May_A
def demesnelaw09_TableWalks_W (f : demesnelaw09_TableWalks_T) : ArS [.c .s, .c (.i .u64), .agg [.b, .b, .b]] EnR := fun p0 p1 p2 p3 p4 K _Kp => f p0 p1 p2 p3 p4 (fun r0 => K (.bool r0))

end Go.Dn
