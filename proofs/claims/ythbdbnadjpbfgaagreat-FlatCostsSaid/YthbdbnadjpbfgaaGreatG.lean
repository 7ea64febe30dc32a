/- Printed by gen3.py: what each function does, as a predicate over a part of the heap. -/
import Derived.Test.YthbdbnadjpbfgaaGreatDnY
import Derived.Test.YthbdbnadjpbfgaaGreatDnO
namespace Go.Dn

abbrev ty_abi_BoundsErrorCode : Nat := 6
abbrev ty_runtime_boundsError : Nat := 8
abbrev ty_runtime_errorString : Nat := 10
abbrev ty_runtime_plainError : Nat := 11
abbrev ty_runtime_errorAddressString : Nat := 14
abbrev ty_maps_unhashableTypeError : Nat := 19
abbrev ty_api_Errno : Nat := 24
abbrev ty_api_Fault : Nat := 30
abbrev ty_kernel_Result : Nat := 32
abbrev ty_call_Words : Nat := 35
abbrev ty_demesneref12_Model : Nat := 43
abbrev ty_demesneref16_Queue : Nat := 46
abbrev ty_demesneref18_Model : Nat := 50
abbrev ty_demesnelaw18_Step : Nat := 54
abbrev ty_demesneref18_Result : Nat := 60
abbrev ty_share_Table : Nat := 72
abbrev ty_flat_Model : Nat := 75
abbrev ty_quota_Node : Nat := 88
abbrev ty_trap_Regs : Nat := 92
abbrev ty_trap_State : Nat := 94
abbrev ty_region_List : Nat := 96
abbrev ty_flat_proc : Nat := 99
abbrev ty_api_Range : Nat := 103
abbrev ty_api_Perm : Nat := 105
abbrev ty_call_Call : Nat := 107
abbrev ty_demesneref08_Box : Nat := 115
abbrev ty_demesneref15_Call : Nat := 121
abbrev ty_demesneref17_State : Nat := 125
abbrev ty_demesneref18_Proc : Nat := 127
abbrev ty_demesneref14_Grant : Nat := 143
abbrev ty_demesneref12_Space : Nat := 158
abbrev ty_quota_Tree : Nat := 164
abbrev ty_sched_Queue : Nat := 166
abbrev ty_call_bad : Nat := 173
abbrev ty_call_reader : Nat := 178
abbrev ty_region_Region : Nat := 181
abbrev ty_api_Access : Nat := 187
abbrev ty_flat_page : Nat := 193
abbrev ty_share_Grant : Nat := 202
abbrev ty_demesneref10_Region : Nat := 218
abbrev ty_demesneref12_Page : Nat := 231
abbrev ty_slices_sortedHint : Nat := 320
abbrev ty_slices_xorshift : Nat := 328
abbrev ty_runtime_TypeAssertionError : Nat := 339
abbrev ty_runtime_PanicNilError : Nat := 342
abbrev ty_abi_TFlag : Nat := 344
abbrev ty_abi_Kind : Nat := 345
abbrev ty_abi_NameOff : Nat := 347
abbrev ty_abi_TypeOff : Nat := 348
abbrev ty_abi_Type : Nat := 350
abbrev ty_unsafe_Pointer : Nat := 352

/- demesne/quota.New -/
abbrev quota_New_T := Int → (Option Addr → Int → AH → Prop) → AP
def quota_New_A (p0 : Int) (Q : Option Addr → Int → AH → Prop) (h : AH) : Prop :=
(bsel (decide (p0 < (0 : Int)))
(Q none (1 : Int) h)
(bsel (decide (p0 > (1048576 : Int)))
(Q none (1 : Int) h)
(newA h (.cells #[(.int .i64 (-1 : Int)), (.int .i64 p0), (.int .i64 (0 : Int)), (.int .i64 (0 : Int)), (.bool true)] 88) fun b1 h2 =>
(newA h2 (.cells #[(.slice (some (Addr.mk b1 0 none)) 1 1)] 164) fun b3 h4 =>
(Q (some (Addr.mk b3 0 none)) (0 : Int) h4)))))
def quota_New_W (f : quota_New_T) : ArS [.c (.i .i64)] EnR := fun p0 K _Kp => f p0 (fun r0 r1 => K (.tuple #[(.pointer r0), (.int .i64 r1)]))

/- demesne/sched.New -/
abbrev sched_New_T := Int → (Option Addr → Int → AH → Prop) → AP
def sched_New_A (p0 : Int) (Q : Option Addr → Int → AH → Prop) (h : AH) : Prop :=
(bsel (decide (p0 < (1 : Int)))
(Q none (1 : Int) h)
(bsel (decide (p0 > (1000 : Int)))
(Q none (1 : Int) h)
(newA h (.cells #[(.int .i64 p0), (.int .i64 (0 : Int)), (.slice none 0 0)] 166) fun b1 h2 =>
(Q (some (Addr.mk b1 0 none)) (0 : Int) h2))))
def sched_New_W (f : sched_New_T) : ArS [.c (.i .i64)] EnR := fun p0 K _Kp => f p0 (fun r0 r1 => K (.tuple #[(.pointer r0), (.int .i64 r1)]))

/- (*demesne/quota.Tree).at -/
abbrev quota_Tree_at_T := Option Addr → Int → (Option Addr → Bool → AH → Prop) → AP
def quota_Tree_at_A (p0 : Option Addr) (p1 : Int) (Q : Option Addr → Bool → AH → Prop) (h : AH) : Prop :=
(bsel (decide (p1 < (0 : Int)))
(Q none false h)
(onSome p0 fun a1 =>
(aS a1 h fun s2 =>
(bsel (decide (p1 ≥ (Int.ofNat s2.len)))
(Q none false h)
(onSome p0 fun a3 =>
(aS a3 h fun s4 =>
(onSome s4.a fun a5 =>
(inB p1 s4.len
(aB (Addr.add (Addr.add a5 (Int.toNat p1 * 5)) 4) h fun b6 =>
(bsel (!b6)
(Q none false h)
(onSome p0 fun a7 =>
(aS a7 h fun s8 =>
(onSome s8.a fun a9 =>
(inB p1 s8.len
(Q (some (Addr.add a9 (Int.toNat p1 * 5))) true h)))))))))))))))
def quota_Tree_at_W (f : quota_Tree_at_T) : ArS [.c .p, .c (.i .i64)] EnR := fun p0 p1 K _Kp => f p0 p1 (fun r0 r1 => K (.tuple #[(.pointer r0), (.bool r1)]))

/- (*demesne/quota.Tree).Room -/
abbrev quota_Tree_Room_T := Option Addr → Int → (Int → AH → Prop) → AP
def quota_Tree_Room_G (f_quota_Tree_at : quota_Tree_at_T) (p0 : Option Addr) (p1 : Int) (Q : Int → AH → Prop) (h : AH) : Prop :=
(f_quota_Tree_at p0 p1 (fun pt1 b2 h3 =>
(bsel (!b2)
(Q (0 : Int) h3)
(onSome pt1 fun a4 =>
(aI .i64 (Addr.add a4 1) h3 fun n5 =>
(onSome pt1 fun a6 =>
(aI .i64 (Addr.add a6 2) h3 fun n7 =>
(onSome pt1 fun a8 =>
(aI .i64 (Addr.add a8 3) h3 fun n9 =>
(Q (IntKind.wrap .i64 ((IntKind.wrap .i64 (n5 - n7)) - n9)) h3))))))))) h)
def quota_Tree_Room_A : quota_Tree_Room_T := quota_Tree_Room_G quota_Tree_at_A
def quota_Tree_Room_W (f : quota_Tree_Room_T) : ArS [.c .p, .c (.i .i64)] EnR := fun p0 p1 K _Kp => f p0 p1 (fun r0 => K (.int .i64 r0))

/- (*demesne/quota.Tree).Charge -/
abbrev quota_Tree_Charge_T := Option Addr → Int → Int → (Int → AH → Prop) → AP
def quota_Tree_Charge_G (f_quota_Tree_at : quota_Tree_at_T) (f_quota_Tree_Room : quota_Tree_Room_T) (p0 : Option Addr) (p1 : Int) (p2 : Int) (Q : Int → AH → Prop) (h : AH) : Prop :=
(f_quota_Tree_at p0 p1 (fun pt1 b2 h3 =>
(bsel (!b2)
(Q (5 : Int) h3)
(bsel (decide (p2 < (0 : Int)))
(Q (1 : Int) h3)
(f_quota_Tree_Room p0 p1 (fun n4 h5 =>
(bsel (decide (p2 > n4))
(Q (8 : Int) h5)
(onSome pt1 fun a6 =>
(aI .i64 (Addr.add a6 2) h5 fun n7 =>
(onSome pt1 fun a8 =>
(aC (Addr.add a8 2) (.int .i64 (IntKind.wrap .i64 (n7 + p2))) h5 fun h9 =>
(Q (0 : Int) h9))))))) h3)))) h)
def quota_Tree_Charge_A : quota_Tree_Charge_T := quota_Tree_Charge_G quota_Tree_at_A quota_Tree_Room_A
def quota_Tree_Charge_W (f : quota_Tree_Charge_T) : ArS [.c .p, .c (.i .i64), .c (.i .i64)] EnR := fun p0 p1 p2 K _Kp => f p0 p1 p2 (fun r0 => K (.int .i64 r0))

/- (*demesne/quota.Tree).Child$1 -/
abbrev quota_Tree_Child_1_T := Int → Int → Int → Int → Bool → (Bool → AH → Prop) → AP
def quota_Tree_Child_1_A (_p0 : Int) (_p1 : Int) (_p2 : Int) (_p3 : Int) (p4 : Bool) (Q : Bool → AH → Prop) (h : AH) : Prop :=
(Q (!p4) h)
def quota_Tree_Child_1_W (f : quota_Tree_Child_1_T) : ArS [.agg [(.i .i64), (.i .i64), (.i .i64), (.i .i64), .b]] EnR := fun p0 p1 p2 p3 p4 K _Kp => f p0 p1 p2 p3 p4 (fun r0 => K (.bool r0))

/- slices.IndexFunc[[]demesne/quota.Node,demesne/quota.Node] -/
abbrev slices_IndexFunc_quota_Node_quota_Node_T := Sl → (Int → AH → Prop) → AP
def slices_IndexFunc_quota_Node_quota_Node_G (f_quota_Tree_Child_1 : quota_Tree_Child_1_T) (p0 : Sl) (Q : Int → AH → Prop) (h : AH) : Prop :=
(∃ I1 : Int → Nat → AH → Prop, (∃ m2, I1 (0 : Int) m2 h) ∧ ∀ x5 : Int, ∀ m2 h4, I1 x5 m2 h4 → 
(bsel (decide (x5 < (Int.ofNat p0.len)))
(onSome p0.a fun a6 =>
(inB x5 p0.len
(aI .i64 (Addr.add a6 (Int.toNat x5 * 5)) h4 fun n7 =>
(aI .i64 (Addr.add (Addr.add a6 (Int.toNat x5 * 5)) 1) h4 fun n8 =>
(aI .i64 (Addr.add (Addr.add a6 (Int.toNat x5 * 5)) 2) h4 fun n9 =>
(aI .i64 (Addr.add (Addr.add a6 (Int.toNat x5 * 5)) 3) h4 fun n10 =>
(aB (Addr.add (Addr.add a6 (Int.toNat x5 * 5)) 4) h4 fun b11 =>
(f_quota_Tree_Child_1 n7 n8 n9 n10 b11 (fun b12 h13 =>
(bsel b12
(Q x5 h13)
(∃ m3, m3 < m2 ∧ I1 (IntKind.wrap .i64 (x5 + (1 : Int))) m3 h13))) h4))))))))
(Q (-1 : Int) h4)))
def slices_IndexFunc_quota_Node_quota_Node_A : slices_IndexFunc_quota_Node_quota_Node_T := slices_IndexFunc_quota_Node_quota_Node_G quota_Tree_Child_1_A
def slices_IndexFunc_quota_Node_quota_Node_W (f : slices_IndexFunc_quota_Node_quota_Node_T) : ArS [.c .s, .fn 111 [] []] EnR := fun p0 K _Kp => f p0 (fun r0 => K (.int .i64 r0))

/- slices.Clone[[]demesne/quota.Node,demesne/quota.Node] -/
abbrev slices_Clone_quota_Node_quota_Node_T := Sl → (Sl → AH → Prop) → AP
def slices_Clone_quota_Node_quota_Node_A (p0 : Sl) (Q : Sl → AH → Prop) (h : AH) : Prop :=
(bsel (Option.isNone p0.a)
(Q Sl.nil h)
(newA h (.cells #[] 88) fun b1 h2 =>
(apA 5 40 #[(.int .i64 (0 : Int)), (.int .i64 (0 : Int)), (.int .i64 (0 : Int)), (.int .i64 (0 : Int)), (.bool false)] 88 (Sl.mk (some (Addr.mk b1 0 none)) 0 0) p0 h2 fun s3 h4 =>
(Q s3 h4))))
def slices_Clone_quota_Node_quota_Node_W (f : slices_Clone_quota_Node_quota_Node_T) : ArS [.c .s] EnR := fun p0 K _Kp => f p0 (fun r0 => K (.slice r0.a r0.len r0.cap))

/- (*demesne/quota.Tree).Child -/
abbrev quota_Tree_Child_T := Option Addr → Int → Int → (Int → Int → AH → Prop) → AP
def quota_Tree_Child_G (f_quota_Tree_at : quota_Tree_at_T) (f_quota_Tree_Room : quota_Tree_Room_T) (f_slices_IndexFunc_quota_Node_quota_Node : slices_IndexFunc_quota_Node_quota_Node_T) (f_slices_Clone_quota_Node_quota_Node : slices_Clone_quota_Node_quota_Node_T) (p0 : Option Addr) (p1 : Int) (p2 : Int) (Q : Int → Int → AH → Prop) (h : AH) : Prop :=
(f_quota_Tree_at p0 p1 (fun pt1 b2 h3 =>
(bsel (!b2)
(Q (0 : Int) (5 : Int) h3)
(bsel (decide (p2 < (0 : Int)))
(Q (0 : Int) (1 : Int) h3)
(f_quota_Tree_Room p0 p1 (fun n4 h5 =>
(bsel (decide (p2 > n4))
(Q (0 : Int) (8 : Int) h5)
(onSome p0 fun a6 =>
(aS a6 h5 fun s7 =>
(f_slices_IndexFunc_quota_Node_quota_Node s7 (fun n8 h9 =>
(∃ R10 : AH → Prop, (∀ h13, R10 h13 → 
(onSome pt1 fun a14 =>
(aI .i64 (Addr.add a14 3) h13 fun n15 =>
(onSome pt1 fun a16 =>
(aC (Addr.add a16 3) (.int .i64 (IntKind.wrap .i64 (n15 + p2))) h13 fun h17 =>
(bsel (decide (n8 < (0 : Int)))
(onSome p0 fun a18 =>
(aS a18 h17 fun s19 =>
((f_slices_Clone_quota_Node_quota_Node s19 (fun s20 h21 =>
(newA h21 (.cells #[(.int .i64 p1), (.int .i64 p2), (.int .i64 (0 : Int)), (.int .i64 (0 : Int)), (.bool (true : Bool))] 88) fun b22 h23 =>
(apA 5 40 #[(.int .i64 (0 : Int)), (.int .i64 (0 : Int)), (.int .i64 (0 : Int)), (.int .i64 (0 : Int)), (.bool false)] 88 s20 (Sl.mk (some (Addr.mk b22 0 none)) 1 1) h23 fun s24 h25 =>
(onSome p0 fun a26 =>
(aC a26 (.slice s24.a s24.len s24.cap) h25 fun h27 =>
(onSome p0 fun a28 =>
(aS a28 h27 fun s29 =>
(Q (IntKind.wrap .i64 ((Int.ofNat s29.len) - (1 : Int))) (0 : Int) h27)))))))) h17) ∧
(newA h17 (.cells #[(.int .i64 p1), (.int .i64 p2), (.int .i64 (0 : Int)), (.int .i64 (0 : Int)), (.bool (true : Bool))] 88) fun b30 h31 =>
((aS a18 h31 fun s32 =>
(((.slice s32.a s32.len s32.cap) : Value) = (.slice s19.a s19.len s19.cap))) ∧
(f_slices_Clone_quota_Node_quota_Node s19 (fun s33 h34 =>
(apA 5 40 #[(.int .i64 (0 : Int)), (.int .i64 (0 : Int)), (.int .i64 (0 : Int)), (.int .i64 (0 : Int)), (.bool false)] 88 s33 (Sl.mk (some (Addr.mk b30 0 none)) 1 1) h34 fun s35 h36 =>
(onSome p0 fun a37 =>
(aC a37 (.slice s35.a s35.len s35.cap) h36 fun h38 =>
(onSome p0 fun a39 =>
(aS a39 h38 fun s40 =>
(Q (IntKind.wrap .i64 ((Int.ofNat s40.len) - (1 : Int))) (0 : Int) h38))))))) h31))))))
(onSome p0 fun a41 =>
(aS a41 h17 fun s42 =>
(onSome s42.a fun a43 =>
(inB n8 s42.len
(aC (Addr.add a43 (Int.toNat n8 * 5)) (.int .i64 p1) h17 fun h44 =>
(aC (Addr.add (Addr.add a43 (Int.toNat n8 * 5)) 1) (.int .i64 p2) h44 fun h45 =>
(aC (Addr.add (Addr.add a43 (Int.toNat n8 * 5)) 2) (.int .i64 (0 : Int)) h45 fun h46 =>
(aC (Addr.add (Addr.add a43 (Int.toNat n8 * 5)) 3) (.int .i64 (0 : Int)) h46 fun h47 =>
(aC (Addr.add (Addr.add a43 (Int.toNat n8 * 5)) 4) (.bool (true : Bool)) h47 fun h48 =>
(Q n8 (0 : Int) h48)))))))))))))))) ∧
(bsel (decide (n8 < (0 : Int)))
(onSome p0 fun a11 =>
(aS a11 h9 fun s12 =>
(bsel (decide ((Int.ofNat s12.len) ≥ (64 : Int)))
(Q (0 : Int) (4 : Int) h9)
(R10 h9))))
(R10 h9)))) h5))))) h3)))) h)
def quota_Tree_Child_A : quota_Tree_Child_T := quota_Tree_Child_G quota_Tree_at_A quota_Tree_Room_A slices_IndexFunc_quota_Node_quota_Node_A slices_Clone_quota_Node_quota_Node_A
def quota_Tree_Child_W (f : quota_Tree_Child_T) : ArS [.c .p, .c (.i .i64), .c (.i .i64)] EnR := fun p0 p1 p2 K _Kp => f p0 p1 p2 (fun r0 r1 => K (.tuple #[(.int .i64 r0), (.int .i64 r1)]))

/- (*demesne/quota.Tree).End: nothing is said of it -/
abbrev quota_Tree_End_T := Option Addr → Int → (Int → AH → Prop) → AP
def quota_Tree_End_A : quota_Tree_End_T := fun _ _ _ _ => False
def quota_Tree_End_W (f : quota_Tree_End_T) : ArS [.c .p, .c (.i .i64)] EnR := fun p0 p1 K _Kp => f p0 p1 (fun r0 => K (.int .i64 r0))

/- slices.Index[[]int,int] -/
abbrev slices_Index_int_int_T := Sl → Int → (Int → AH → Prop) → AP
def slices_Index_int_int_A (p0 : Sl) (p1 : Int) (Q : Int → AH → Prop) (h : AH) : Prop :=
(∃ I1 : Int → Nat → AH → Prop, (∃ m2, I1 (0 : Int) m2 h) ∧ ∀ x5 : Int, ∀ m2 h4, I1 x5 m2 h4 → 
(bsel (decide (x5 < (Int.ofNat p0.len)))
(onSome p0.a fun a6 =>
(inB x5 p0.len
(aI .i64 (Addr.add a6 (Int.toNat x5 * 1)) h4 fun n7 =>
(bsel (p1 == n7)
(Q x5 h4)
(∃ m3, m3 < m2 ∧ I1 (IntKind.wrap .i64 (x5 + (1 : Int))) m3 h4)))))
(Q (-1 : Int) h4)))
def slices_Index_int_int_W (f : slices_Index_int_int_T) : ArS [.c .s, .c (.i .i64)] EnR := fun p0 p1 K _Kp => f p0 p1 (fun r0 => K (.int .i64 r0))

/- slices.Contains[[]int,int] -/
abbrev slices_Contains_int_int_T := Sl → Int → (Bool → AH → Prop) → AP
def slices_Contains_int_int_G (f_slices_Index_int_int : slices_Index_int_int_T) (p0 : Sl) (p1 : Int) (Q : Bool → AH → Prop) (h : AH) : Prop :=
(f_slices_Index_int_int p0 p1 (fun n1 h2 =>
(Q (decide (n1 ≥ (0 : Int))) h2)) h)
def slices_Contains_int_int_A : slices_Contains_int_int_T := slices_Contains_int_int_G slices_Index_int_int_A
def slices_Contains_int_int_W (f : slices_Contains_int_int_T) : ArS [.c .s, .c (.i .i64)] EnR := fun p0 p1 K _Kp => f p0 p1 (fun r0 => K (.bool r0))

/- slices.Clone[[]int,int] -/
abbrev slices_Clone_int_int_T := Sl → (Sl → AH → Prop) → AP
def slices_Clone_int_int_A (p0 : Sl) (Q : Sl → AH → Prop) (h : AH) : Prop :=
(bsel (Option.isNone p0.a)
(Q Sl.nil h)
(newA h (.cells #[] 3) fun b1 h2 =>
(apA 1 8 #[(.int .i64 (0 : Int))] 3 (Sl.mk (some (Addr.mk b1 0 none)) 0 0) p0 h2 fun s3 h4 =>
(Q s3 h4))))
def slices_Clone_int_int_W (f : slices_Clone_int_int_T) : ArS [.c .s] EnR := fun p0 K _Kp => f p0 (fun r0 => K (.slice r0.a r0.len r0.cap))

/- (*demesne/sched.Queue).Add -/
abbrev sched_Queue_Add_T := Option Addr → Int → (Int → AH → Prop) → AP
def sched_Queue_Add_G (f_slices_Contains_int_int : slices_Contains_int_int_T) (f_slices_Clone_int_int : slices_Clone_int_int_T) (p0 : Option Addr) (p1 : Int) (Q : Int → AH → Prop) (h : AH) : Prop :=
(∃ R1 : Bool → AH → Prop, (∀ b2 : Bool, ∀ h3, R1 b2 h3 → 
(bsel b2
(Q (1 : Int) h3)
(onSome p0 fun a4 =>
(aS (Addr.add a4 2) h3 fun s5 =>
(f_slices_Contains_int_int s5 p1 (fun b6 h7 =>
(bsel b6
(Q (6 : Int) h7)
(onSome p0 fun a8 =>
(aS (Addr.add a8 2) h7 fun s9 =>
(f_slices_Clone_int_int s9 (fun s10 h11 =>
(newA h11 (.cells #[(.int .i64 p1)] 3) fun b12 h13 =>
(apA 1 8 #[(.int .i64 (0 : Int))] 3 s10 (Sl.mk (some (Addr.mk b12 0 none)) 1 1) h13 fun s14 h15 =>
(onSome p0 fun a16 =>
(aC (Addr.add a16 2) (.slice s14.a s14.len s14.cap) h15 fun h17 =>
(Q (0 : Int) h17)))))) h7))))) h3))))) ∧
(bsel (decide (p1 < (0 : Int)))
(R1 (decide (p1 < (0 : Int))) h)
(R1 (decide (p1 ≥ (16 : Int))) h)))
def sched_Queue_Add_A : sched_Queue_Add_T := sched_Queue_Add_G slices_Contains_int_int_A slices_Clone_int_int_A
def sched_Queue_Add_W (f : sched_Queue_Add_T) : ArS [.c .p, .c (.i .i64)] EnR := fun p0 p1 K _Kp => f p0 p1 (fun r0 => K (.int .i64 r0))

/- (*demesne/flat.Model).start -/
abbrev flat_Model_start_T := Option Addr → Int → Int → Int → (Int → Int → AH → Prop) → AP
def flat_Model_start_G (f_quota_Tree_Child : quota_Tree_Child_T) (f_quota_Tree_Charge : quota_Tree_Charge_T) (f_quota_Tree_End : quota_Tree_End_T) (f_sched_Queue_Add : sched_Queue_Add_T) (p0 : Option Addr) (p1 : Int) (p2 : Int) (p3 : Int) (Q : Int → Int → AH → Prop) (h : AH) : Prop :=
(∃ I1 : Int → Nat → AH → Prop, (∃ m2, I1 (0 : Int) m2 h) ∧ ∀ x5 : Int, ∀ m2 h4, I1 x5 m2 h4 → 
(onSome p0 fun a6 =>
(aM (Addr.add a6 3) h4 fun mp7 =>
(aLk h4 mp7 .i64 x5 fun o8 =>
(∃ pt9 : Option Addr, ((o8.getD (.pointer none)) : Value) = (.pointer pt9) ∧
(bsel (!pt9.isNone)
(∃ m3, m3 < m2 ∧ I1 (IntKind.wrap .i64 (x5 + (1 : Int))) m3 h4)
(bsel (decide (x5 ≥ (16 : Int)))
(Q (0 : Int) (4 : Int) h4)
(onSome p0 fun a10 =>
(aP a10 h4 fun pt11 =>
(f_quota_Tree_Child pt11 p2 p3 (fun n12 n13 h14 =>
(bsel (n13 != (0 : Int))
(Q (0 : Int) n13 h14)
(onSome p0 fun a15 =>
(aP a15 h14 fun pt16 =>
(f_quota_Tree_Charge pt16 n12 (1 : Int) (fun n17 h18 =>
(bsel (n17 != (0 : Int))
(onSome p0 fun a19 =>
(aP a19 h18 fun pt20 =>
(f_quota_Tree_End pt20 n12 (fun n21 h22 =>
(Q (0 : Int) n17 h22)) h18)))
(onSome p0 fun a23 =>
(aM (Addr.add a23 3) h18 fun mp24 =>
(newA h18 (.map #[] 0) fun b25 h26 =>
(newA h26 (.cells #[(.int .i64 n12), (.int .i64 p1), (.int .u64 (0 : Int)), (.int .u64 (0 : Int)), (.int .u64 (0 : Int)), (.int .u64 (0 : Int)), (.int .i64 (0 : Int)), (.int .u64 (0 : Int)), (.bool false), (.int .u64 (0 : Int)), (.int .i64 (0 : Int)), (.int .u64 (0 : Int)), (.int .u64 (0 : Int)), (.int .u64 (0 : Int)), (.int .u64 (0 : Int)), (.slice none 0 0), (.map (some b25))] 99) fun b27 h28 =>
(aMSt h28 mp24 .i64 x5 (.pointer (some (Addr.mk b27 0 none))) fun h29 =>
(onSome p0 fun a30 =>
(aP (Addr.add a30 1) h29 fun pt31 =>
(f_sched_Queue_Add pt31 x5 (fun n32 h33 =>
(Q x5 (0 : Int) h33)) h29)))))))))) h14))))) h4))))))))))
def flat_Model_start_A : flat_Model_start_T := flat_Model_start_G quota_Tree_Child_A quota_Tree_Charge_A quota_Tree_End_A sched_Queue_Add_A
def flat_Model_start_W (f : flat_Model_start_T) : ArS [.c .p, .c (.i .i64), .c (.i .i64), .c (.i .i64)] EnR := fun p0 p1 p2 p3 K _Kp => f p0 p1 p2 p3 (fun r0 r1 => K (.tuple #[(.int .i64 r0), (.int .i64 r1)]))

/- demesne/flat.Boot -/
abbrev flat_Boot_T := Int → Int → Int → (Option Addr → Int → AH → Prop) → AP
def flat_Boot_G (f_quota_New : quota_New_T) (f_sched_New : sched_New_T) (f_quota_Tree_Charge : quota_Tree_Charge_T) (f_flat_Model_start : flat_Model_start_T) (p0 : Int) (p1 : Int) (p2 : Int) (Q : Option Addr → Int → AH → Prop) (h : AH) : Prop :=
(∃ R1 : AH → Prop, (∀ h2, R1 h2 → 
(f_quota_New p0 (fun pt3 n4 h5 =>
(bsel (n4 != (0 : Int))
(Q none n4 h5)
(f_sched_New p2 (fun pt6 n7 h8 =>
(bsel (n7 != (0 : Int))
(Q none n7 h8)
(f_quota_Tree_Charge pt3 (0 : Int) p1 (fun n9 h10 =>
(newA h10 (.map #[] 0) fun b11 h12 =>
(newA h12 (.cells #[(.pointer pt3), (.pointer pt6), (.map none), (.map (some b11))] 75) fun b13 h14 =>
(f_flat_Model_start (some (Addr.mk b13 0 none)) (0 : Int) (0 : Int) (IntKind.wrap .i64 (p0 - p1)) (fun n15 n16 h17 =>
(bsel (n16 != (0 : Int))
(Q none n16 h17)
(Q (some (Addr.mk b13 0 none)) (0 : Int) h17))) h14)))) h8))) h5))) h2)) ∧
(bsel (decide (p1 < (0 : Int)))
(Q none (1 : Int) h)
(bsel (decide (p1 > p0))
(Q none (1 : Int) h)
(R1 h))))
def flat_Boot_A : flat_Boot_T := flat_Boot_G quota_New_A sched_New_A quota_Tree_Charge_A flat_Model_start_A
def flat_Boot_W (f : flat_Boot_T) : ArS [.c (.i .i64), .c (.i .i64), .c (.i .i64)] EnR := fun p0 p1 p2 K _Kp => f p0 p1 p2 (fun r0 r1 => K (.tuple #[(.pointer r0), (.int .i64 r1)]))

/- (*demesne/sched.Queue).Now -/
abbrev sched_Queue_Now_T := Option Addr → (Int → Bool → AH → Prop) → AP
def sched_Queue_Now_A (p0 : Option Addr) (Q : Int → Bool → AH → Prop) (h : AH) : Prop :=
(onSome p0 fun a1 =>
(aS (Addr.add a1 2) h fun s2 =>
(bsel ((Int.ofNat s2.len) == (0 : Int))
(Q (0 : Int) false h)
(onSome p0 fun a3 =>
(aS (Addr.add a3 2) h fun s4 =>
(onSome s4.a fun a5 =>
(inB (0 : Int) s4.len
(aI .i64 a5 h fun n6 =>
(Q n6 true h)))))))))
def sched_Queue_Now_W (f : sched_Queue_Now_T) : ArS [.c .p] EnR := fun p0 K _Kp => f p0 (fun r0 r1 => K (.tuple #[(.int .i64 r0), (.bool r1)]))

/- (*demesne/call.reader).word -/
abbrev call_reader_word_T := Option Addr → Int → (Int → AH → Prop) → (Value → AP) → AP
def call_reader_word_A (p0 : Option Addr) (p1 : Int) (Q : Int → AH → Prop) (Kp : Value → AP) (h : AH) : Prop :=
(onSome p0 fun a1 =>
(aS a1 h fun s2 =>
(onSome s2.a fun a3 =>
(inB (0 : Int) s2.len
(aI .u64 a3 h fun n4 =>
(∃ R5 : AH → Prop, (∀ h10, R5 h10 → 
(Q n4 h10)) ∧
(onSome p0 fun a6 =>
(aS a6 h fun s7 =>
(inB (1 : Int) (s7.len + 1)
(onSome p0 fun a8 =>
(aC a8 (.slice (if s7.cap = 1 then s7.a else Option.map (fun x => Addr.add x (1 * 1)) s7.a) (s7.len - 1) (s7.cap - 1)) h fun h9 =>
(bsel (decide (n4 > p1))
(Kp (.iface 173 (.agg #[])) h9)
(R5 h9)))))))))))))
def call_reader_word_W (f : call_reader_word_T) : ArS [.c .p, .c (.i .u64)] EnR := fun p0 p1 K Kp => f p0 p1 (fun r0 => K (.int .u64 r0)) Kp

/- (*demesne/call.reader).number -/
abbrev call_reader_number_T := Option Addr → Int → (Int → AH → Prop) → (Value → AP) → AP
def call_reader_number_G (f_call_reader_word : call_reader_word_T) (p0 : Option Addr) (p1 : Int) (Q : Int → AH → Prop) (Kp : Value → AP) (h : AH) : Prop :=
(f_call_reader_word p0 (IntKind.wrap .u64 (IntKind.wrap .i64 (p1 - (1 : Int)))) (fun n1 h2 =>
(Q (IntKind.wrap .i64 n1) h2)) (fun v3 h4 => (Kp v3 h4)) h)
def call_reader_number_A : call_reader_number_T := call_reader_number_G call_reader_word_A
def call_reader_number_W (f : call_reader_number_T) : ArS [.c .p, .c (.i .i64)] EnR := fun p0 p1 K Kp => f p0 p1 (fun r0 => K (.int .i64 r0)) Kp

/- (*demesne/call.reader).pages -/
abbrev call_reader_pages_T := Option Addr → (Int → Int → AH → Prop) → (Value → AP) → AP
def call_reader_pages_G (f_call_reader_number : call_reader_number_T) (p0 : Option Addr) (Q : Int → Int → AH → Prop) (Kp : Value → AP) (h : AH) : Prop :=
(f_call_reader_number p0 (34359738368 : Int) (fun n1 h2 =>
(f_call_reader_number p0 (65537 : Int) (fun n5 h6 =>
(∃ R9 : AH → Prop, (∀ h10, R9 h10 → 
(Q n1 ((IntKind.wrap .i64 ((IntKind.wrap .i64 ((IntKind.wrap .i64 (n1 + (1 : Int))) + n5)) - (1 : Int))) : Int) h10)) ∧
(bsel (((IntKind.wrap .i64 ((IntKind.wrap .i64 ((IntKind.wrap .i64 (n1 + (1 : Int))) + n5)) - (1 : Int))) : Int) == n1)
(Kp (.iface 173 (.agg #[])) h6)
(bsel (decide (((IntKind.wrap .i64 ((IntKind.wrap .i64 ((IntKind.wrap .i64 (n1 + (1 : Int))) + n5)) - (1 : Int))) : Int) > (34359738368 : Int)))
(Kp (.iface 173 (.agg #[])) h6)
(R9 h6))))) (fun v7 h8 => (Kp v7 h8)) h2)) (fun v3 h4 => (Kp v3 h4)) h)
def call_reader_pages_A : call_reader_pages_T := call_reader_pages_G call_reader_number_A
def call_reader_pages_W (f : call_reader_pages_T) : ArS [.c .p] EnR := fun p0 K Kp => f p0 (fun r0 r1 => K (.agg #[(.int .i64 r0), (.int .i64 r1)])) Kp

/- (*demesne/call.reader).perm -/
abbrev call_reader_perm_T := Option Addr → (Bool → Bool → Bool → AH → Prop) → (Value → AP) → AP
def call_reader_perm_G (f_call_reader_word : call_reader_word_T) (p0 : Option Addr) (Q : Bool → Bool → Bool → AH → Prop) (Kp : Value → AP) (h : AH) : Prop :=
(f_call_reader_word p0 (3 : Int) (fun n1 h2 =>
(Q (((bits .and .u64 n1 (1 : Int)) == (1 : Int)) : Bool) (true : Bool) (((bits .and .u64 n1 (2 : Int)) == (2 : Int)) : Bool) h2)) (fun v3 h4 => (Kp v3 h4)) h)
def call_reader_perm_A : call_reader_perm_T := call_reader_perm_G call_reader_word_A
def call_reader_perm_W (f : call_reader_perm_T) : ArS [.c .p] EnR := fun p0 K Kp => f p0 (fun r0 r1 r2 => K (.agg #[(.bool r0), (.bool r1), (.bool r2)])) Kp

/- (*demesne/call.reader).spot -/
abbrev call_reader_spot_T := Option Addr → Option Addr → (AH → Prop) → (Value → AP) → AP
def call_reader_spot_G (f_call_reader_word : call_reader_word_T) (f_call_reader_number : call_reader_number_T) (p0 : Option Addr) (p1 : Option Addr) (Q : AH → Prop) (Kp : Value → AP) (h : AH) : Prop :=
(f_call_reader_word p0 (140737488355327 : Int) (fun n1 h2 =>
(onSome p1 fun a5 =>
(aC (Addr.add a5 6) (.int .u64 n1) h2 fun h6 =>
(f_call_reader_number p0 (9 : Int) (fun n7 h8 =>
(onSome p1 fun a11 =>
(aC (Addr.add a11 7) (.int .i64 n7) h8 fun h12 =>
(onSome p1 fun a13 =>
(aI .i64 (Addr.add a13 7) h12 fun n14 =>
(onSome p1 fun a15 =>
(aI .i64 (Addr.add a15 7) h12 fun n16 =>
(bsel ((bits .and .i64 n14 (IntKind.wrap .i64 (n16 - (1 : Int)))) != (0 : Int))
(Kp (.iface 173 (.agg #[])) h12)
(onSome p1 fun a17 =>
(aI .i64 (Addr.add a17 7) h12 fun n18 =>
(bsel (n18 == (0 : Int))
(Kp (.iface 173 (.agg #[])) h12)
(onSome p1 fun a19 =>
(aI .u64 (Addr.add a19 6) h12 fun n20 =>
(onSome p1 fun a21 =>
(aI .i64 (Addr.add a21 7) h12 fun n22 =>
(bsel ((IntKind.wrap .u64 n22) == 0) False
(bsel ((Int.tmod n20 (IntKind.wrap .u64 n22)) != (0 : Int))
(Kp (.iface 173 (.agg #[])) h12)
(Q h12)))))))))))))))))) (fun v9 h10 => (Kp v9 h10)) h6)))) (fun v3 h4 => (Kp v3 h4)) h)
def call_reader_spot_A : call_reader_spot_T := call_reader_spot_G call_reader_word_A call_reader_number_A
def call_reader_spot_W (f : call_reader_spot_T) : ArS [.c .p, .c .p] EnR := fun p0 p1 K Kp => f p0 p1 (K (.tuple #[])) Kp

/- (*demesne/call.reader).one -/
abbrev call_reader_one_T := Option Addr → (Int → Int → AH → Prop) → (Value → AP) → AP
def call_reader_one_G (f_call_reader_number : call_reader_number_T) (p0 : Option Addr) (Q : Int → Int → AH → Prop) (Kp : Value → AP) (h : AH) : Prop :=
(f_call_reader_number p0 (34359738368 : Int) (fun n1 h2 =>
(Q n1 ((IntKind.wrap .i64 (n1 + (1 : Int))) : Int) h2)) (fun v3 h4 => (Kp v3 h4)) h)
def call_reader_one_A : call_reader_one_T := call_reader_one_G call_reader_number_A
def call_reader_one_W (f : call_reader_one_T) : ArS [.c .p] EnR := fun p0 K Kp => f p0 (fun r0 r1 => K (.agg #[(.int .i64 r0), (.int .i64 r1)])) Kp

/- (*demesne/call.reader).read -/
abbrev call_reader_read_T := Option Addr → (Int → Int → Int → Bool → Bool → Bool → Int → Int → Int → Int → Int → Int → Int → AH → Prop) → (Value → AP) → AP
def call_reader_read_G (f_call_reader_number : call_reader_number_T) (f_call_reader_pages : call_reader_pages_T) (f_call_reader_perm : call_reader_perm_T) (f_call_reader_spot : call_reader_spot_T) (f_call_reader_word : call_reader_word_T) (f_call_reader_one : call_reader_one_T) (p0 : Option Addr) (Q : Int → Int → Int → Bool → Bool → Bool → Int → Int → Int → Int → Int → Int → Int → AH → Prop) (Kp : Value → AP) (h : AH) : Prop :=
(f_call_reader_number p0 (17 : Int) (fun n1 h2 =>
(newA h2 (.cells #[(.int .i64 (0 : Int)), (.int .i64 (0 : Int)), (.int .i64 (0 : Int)), (.bool false), (.bool false), (.bool false), (.int .u64 (0 : Int)), (.int .i64 (0 : Int)), (.int .u64 (0 : Int)), (.int .i64 (0 : Int)), (.int .i64 (0 : Int)), (.int .i64 (0 : Int)), (.int .i64 (0 : Int))] 107) fun b5 h6 =>
(aC (Addr.mk b5 0 none) (.int .i64 n1) h6 fun h7 =>
(aC (Addr.add (Addr.mk b5 0 none) 1) (.int .i64 (0 : Int)) h7 fun h8 =>
(aC (Addr.add (Addr.mk b5 0 none) 2) (.int .i64 (0 : Int)) h8 fun h9 =>
(aC (Addr.add (Addr.mk b5 0 none) 3) (.bool false) h9 fun h10 =>
(aC (Addr.add (Addr.mk b5 0 none) 4) (.bool false) h10 fun h11 =>
(aC (Addr.add (Addr.mk b5 0 none) 5) (.bool false) h11 fun h12 =>
(aC (Addr.add (Addr.mk b5 0 none) 6) (.int .u64 (0 : Int)) h12 fun h13 =>
(aC (Addr.add (Addr.mk b5 0 none) 7) (.int .i64 (0 : Int)) h13 fun h14 =>
(aC (Addr.add (Addr.mk b5 0 none) 8) (.int .u64 (0 : Int)) h14 fun h15 =>
(aC (Addr.add (Addr.mk b5 0 none) 9) (.int .i64 (0 : Int)) h15 fun h16 =>
(aC (Addr.add (Addr.mk b5 0 none) 10) (.int .i64 (0 : Int)) h16 fun h17 =>
(aC (Addr.add (Addr.mk b5 0 none) 11) (.int .i64 (0 : Int)) h17 fun h18 =>
(aC (Addr.add (Addr.mk b5 0 none) 12) (.int .i64 (0 : Int)) h18 fun h19 =>
(∃ R20 : AH → Prop, (∀ h142, R20 h142 → 
(onSome p0 fun a143 =>
(aS a143 h142 fun s144 =>
(∃ I145 : Int → Nat → AH → Prop, (∃ m146, I145 (0 : Int) m146 h142) ∧ ∀ x149 : Int, ∀ m146 h148, I145 x149 m146 h148 → 
(bsel (decide (x149 < (Int.ofNat s144.len)))
(f_call_reader_word p0 (0 : Int) (fun n150 h151 =>
(∃ m147, m147 < m146 ∧ I145 (IntKind.wrap .i64 (x149 + (1 : Int))) m147 h151)) (fun v152 h153 => (Kp v152 h153)) h148)
(aI .i64 (Addr.mk b5 0 none) h148 fun n154 =>
(aI .i64 (Addr.add (Addr.mk b5 0 none) 1) h148 fun n155 =>
(aI .i64 (Addr.add (Addr.mk b5 0 none) 2) h148 fun n156 =>
(aB (Addr.add (Addr.mk b5 0 none) 3) h148 fun b157 =>
(aB (Addr.add (Addr.mk b5 0 none) 4) h148 fun b158 =>
(aB (Addr.add (Addr.mk b5 0 none) 5) h148 fun b159 =>
(aI .u64 (Addr.add (Addr.mk b5 0 none) 6) h148 fun n160 =>
(aI .i64 (Addr.add (Addr.mk b5 0 none) 7) h148 fun n161 =>
(aI .u64 (Addr.add (Addr.mk b5 0 none) 8) h148 fun n162 =>
(aI .i64 (Addr.add (Addr.mk b5 0 none) 9) h148 fun n163 =>
(aI .i64 (Addr.add (Addr.mk b5 0 none) 10) h148 fun n164 =>
(aI .i64 (Addr.add (Addr.mk b5 0 none) 11) h148 fun n165 =>
(aI .i64 (Addr.add (Addr.mk b5 0 none) 12) h148 fun n166 =>
(Q n154 n155 n156 b157 b158 b159 n160 n161 n162 n163 n164 n165 n166 h148))))))))))))))))))) ∧
(aI .i64 (Addr.mk b5 0 none) h19 fun n21 =>
(∃ R22 : Bool → AH → Prop, (∀ b23 : Bool, ∀ h24, R22 b23 h24 → 
(bsel b23
(f_call_reader_pages p0 (fun n25 n26 h27 =>
(f_call_reader_perm p0 (fun b30 b31 b32 h33 =>
(aC (Addr.add (Addr.mk b5 0 none) 1) (.int .i64 n25) h33 fun h36 =>
(aC (Addr.add (Addr.add (Addr.mk b5 0 none) 1) 1) (.int .i64 n26) h36 fun h37 =>
(aC (Addr.add (Addr.mk b5 0 none) 3) (.bool b30) h37 fun h38 =>
(aC (Addr.add (Addr.add (Addr.mk b5 0 none) 3) 1) (.bool b31) h38 fun h39 =>
(aC (Addr.add (Addr.add (Addr.mk b5 0 none) 3) 2) (.bool b32) h39 fun h40 =>
(R20 h40))))))) (fun v34 h35 => (Kp v34 h35)) h27)) (fun v28 h29 => (Kp v28 h29)) h24)
(bsel (n21 == (2 : Int))
(f_call_reader_pages p0 (fun n41 n42 h43 =>
(aC (Addr.add (Addr.mk b5 0 none) 1) (.int .i64 n41) h43 fun h46 =>
(aC (Addr.add (Addr.add (Addr.mk b5 0 none) 1) 1) (.int .i64 n42) h46 fun h47 =>
(R20 h47)))) (fun v44 h45 => (Kp v44 h45)) h24)
(bsel (n21 == (4 : Int))
(f_call_reader_spot p0 (some (Addr.mk b5 0 none)) (fun h48 =>
(R20 h48)) (fun v49 h50 => (Kp v49 h50)) h24)
(bsel (n21 == (5 : Int))
(f_call_reader_spot p0 (some (Addr.mk b5 0 none)) (fun h51 =>
(f_call_reader_word p0 (18446744073709551615 : Int) (fun n54 h55 =>
(aC (Addr.add (Addr.mk b5 0 none) 8) (.int .u64 n54) h55 fun h58 =>
(aI .i64 (Addr.add (Addr.mk b5 0 none) 7) h58 fun n59 =>
(bsel (decide (n59 < (8 : Int)))
(aI .u64 (Addr.add (Addr.mk b5 0 none) 8) h58 fun n60 =>
(aI .i64 (Addr.add (Addr.mk b5 0 none) 7) h58 fun n61 =>
(bsel (decide ((IntKind.wrap .i64 ((8 : Int) * n61)) < 0)) False
(bsel ((Int.fdiv n60 (2 ^ (min (Int.toNat (IntKind.wrap .i64 ((8 : Int) * n61))) 64))) != (0 : Int))
(Kp (.iface 173 (.agg #[])) h58)
(R20 h58)))))
(R20 h58))))) (fun v56 h57 => (Kp v56 h57)) h51)) (fun v52 h53 => (Kp v52 h53)) h24)
(bsel (n21 == (6 : Int))
(f_call_reader_one p0 (fun n62 n63 h64 =>
(f_call_reader_number p0 (16 : Int) (fun n67 h68 =>
(aC (Addr.add (Addr.mk b5 0 none) 1) (.int .i64 n62) h68 fun h71 =>
(aC (Addr.add (Addr.add (Addr.mk b5 0 none) 1) 1) (.int .i64 n63) h71 fun h72 =>
(aC (Addr.add (Addr.mk b5 0 none) 9) (.int .i64 n67) h72 fun h73 =>
(f_call_reader_word p0 (1 : Int) (fun n74 h75 =>
(aC (Addr.add (Addr.mk b5 0 none) 3) (.bool (n74 == (1 : Int))) h75 fun h78 =>
(R20 h78))) (fun v76 h77 => (Kp v76 h77)) h73))))) (fun v69 h70 => (Kp v69 h70)) h64)) (fun v65 h66 => (Kp v65 h66)) h24)
(bsel (n21 == (7 : Int))
(f_call_reader_number p0 (256 : Int) (fun n79 h80 =>
(f_call_reader_one p0 (fun n83 n84 h85 =>
(aC (Addr.add (Addr.mk b5 0 none) 9) (.int .i64 n79) h85 fun h88 =>
(aC (Addr.add (Addr.mk b5 0 none) 1) (.int .i64 n83) h88 fun h89 =>
(aC (Addr.add (Addr.add (Addr.mk b5 0 none) 1) 1) (.int .i64 n84) h89 fun h90 =>
(R20 h90))))) (fun v86 h87 => (Kp v86 h87)) h80)) (fun v81 h82 => (Kp v81 h82)) h24)
(∃ R91 : Bool → AH → Prop, (∀ b92 : Bool, ∀ h93, R91 b92 h93 → 
(bsel b92
(f_call_reader_number p0 (256 : Int) (fun n94 h95 =>
(aC (Addr.add (Addr.mk b5 0 none) 9) (.int .i64 n94) h95 fun h98 =>
(R20 h98))) (fun v96 h97 => (Kp v96 h97)) h93)
(bsel (n21 == (10 : Int))
(f_call_reader_word p0 (140737488355327 : Int) (fun n99 h100 =>
(aC (Addr.add (Addr.mk b5 0 none) 6) (.int .u64 n99) h100 fun h103 =>
(R20 h103))) (fun v101 h102 => (Kp v101 h102)) h93)
(bsel (n21 == (12 : Int))
(f_call_reader_number p0 (1048577 : Int) (fun n104 h105 =>
(aC (Addr.add (Addr.mk b5 0 none) 9) (.int .i64 n104) h105 fun h108 =>
(R20 h108))) (fun v106 h107 => (Kp v106 h107)) h93)
(bsel (n21 == (15 : Int))
(f_call_reader_number p0 (8 : Int) (fun n109 h110 =>
(f_call_reader_number p0 (4 : Int) (fun n113 h114 =>
(f_call_reader_number p0 (4 : Int) (fun n117 h118 =>
(f_call_reader_number p0 (4 : Int) (fun n121 h122 =>
(aC (Addr.add (Addr.mk b5 0 none) 9) (.int .i64 (IntKind.wrap .i64 ((1 : Int) + n109))) h122 fun h125 =>
(aC (Addr.add (Addr.mk b5 0 none) 10) (.int .i64 n113) h125 fun h126 =>
(aC (Addr.add (Addr.mk b5 0 none) 11) (.int .i64 n117) h126 fun h127 =>
(aC (Addr.add (Addr.mk b5 0 none) 12) (.int .i64 n121) h127 fun h128 =>
(R20 h128)))))) (fun v123 h124 => (Kp v123 h124)) h118)) (fun v119 h120 => (Kp v119 h120)) h114)) (fun v115 h116 => (Kp v115 h116)) h110)) (fun v111 h112 => (Kp v111 h112)) h93)
(bsel (n21 == (16 : Int))
(f_call_reader_number p0 (4 : Int) (fun n129 h130 =>
(f_call_reader_word p0 (18446744073709551615 : Int) (fun n133 h134 =>
(aC (Addr.add (Addr.mk b5 0 none) 9) (.int .i64 n129) h134 fun h137 =>
(aC (Addr.add (Addr.mk b5 0 none) 8) (.int .u64 n133) h137 fun h138 =>
(R20 h138)))) (fun v135 h136 => (Kp v135 h136)) h130)) (fun v131 h132 => (Kp v131 h132)) h93)
(∃ R139 : Bool → AH → Prop, (∀ b140 : Bool, ∀ h141, R139 b140 h141 → 
(bsel b140
(R20 h141)
(Kp (.iface 173 (.agg #[])) h141))) ∧
(bsel (n21 == (11 : Int))
(R139 (n21 == (11 : Int)) h93)
(bsel (n21 == (13 : Int))
(R139 (n21 == (13 : Int)) h93)
(R139 (n21 == (14 : Int)) h93)))))))))) ∧
(bsel (n21 == (8 : Int))
(R91 (n21 == (8 : Int)) h24)
(R91 (n21 == (9 : Int)) h24)))))))))) ∧
(bsel (n21 == (1 : Int))
(R22 (n21 == (1 : Int)) h19)
(R22 (n21 == (3 : Int)) h19)))))))))))))))))))) (fun v3 h4 => (Kp v3 h4)) h)
def call_reader_read_A : call_reader_read_T := call_reader_read_G call_reader_number_A call_reader_pages_A call_reader_perm_A call_reader_spot_A call_reader_word_A call_reader_one_A
def call_reader_read_W (f : call_reader_read_T) : ArS [.c .p] EnR := fun p0 K Kp => f p0 (fun r0 r1 r2 r3 r4 r5 r6 r7 r8 r9 r10 r11 r12 => K (.agg #[(.int .i64 r0), (.int .i64 r1), (.int .i64 r2), (.bool r3), (.bool r4), (.bool r5), (.int .u64 r6), (.int .i64 r7), (.int .u64 r8), (.int .i64 r9), (.int .i64 r10), (.int .i64 r11), (.int .i64 r12)])) Kp

/- demesne/call.Read$1: where nothing panics; where it recovers -/
abbrev call_Read_1_Tn := Option Addr → Option Addr → AP → AP
def call_Read_1_nA (_p0 : Option Addr) (_p1 : Option Addr) (K : AP) (h : AH) : Prop :=
(K h)
abbrev call_Read_1_Tp := Option Addr → Option Addr → AP → AP
def call_Read_1_pA (p0 : Option Addr) (p1 : Option Addr) (K : AP) (h : AH) : Prop :=
(onSome p0 fun a1 =>
(aC a1 (.int .i64 (0 : Int)) h fun h2 =>
(aC (Addr.add a1 1) (.int .i64 (0 : Int)) h2 fun h3 =>
(aC (Addr.add a1 2) (.int .i64 (0 : Int)) h3 fun h4 =>
(aC (Addr.add a1 3) (.bool false) h4 fun h5 =>
(aC (Addr.add a1 4) (.bool false) h5 fun h6 =>
(aC (Addr.add a1 5) (.bool false) h6 fun h7 =>
(aC (Addr.add a1 6) (.int .u64 (0 : Int)) h7 fun h8 =>
(aC (Addr.add a1 7) (.int .i64 (0 : Int)) h8 fun h9 =>
(aC (Addr.add a1 8) (.int .u64 (0 : Int)) h9 fun h10 =>
(aC (Addr.add a1 9) (.int .i64 (0 : Int)) h10 fun h11 =>
(aC (Addr.add a1 10) (.int .i64 (0 : Int)) h11 fun h12 =>
(aC (Addr.add a1 11) (.int .i64 (0 : Int)) h12 fun h13 =>
(aC (Addr.add a1 12) (.int .i64 (0 : Int)) h13 fun h14 =>
(onSome p1 fun a15 =>
(aC a15 (.int .i64 (13 : Int)) h14 fun h16 =>
(K h16)))))))))))))))))
abbrev call_Read_1_Tv := Option Addr → Option Addr → Value → AP → AP
def call_Read_1_vA (f_p : call_Read_1_Tp) : call_Read_1_Tv := fun p0 p1 v K h => dpS [.c .p, .c .p] 173 [] f_p [(.pointer p0), (.pointer p1)] v K h
/- demesne/call.Read -/
abbrev call_Read_T := Int → Int → Int → Int → Int → Int → (Int → Int → Int → Bool → Bool → Bool → Int → Int → Int → Int → Int → Int → Int → Int → AH → Prop) → AP
def call_Read_G (f_call_reader_read : call_reader_read_T) (f_call_Read_1_n : call_Read_1_Tn) (f_call_Read_1_v : call_Read_1_Tv) (p0 : Int) (p1 : Int) (p2 : Int) (p3 : Int) (p4 : Int) (p5 : Int) (Q : Int → Int → Int → Bool → Bool → Bool → Int → Int → Int → Int → Int → Int → Int → Int → AH → Prop) (h : AH) : Prop :=
(newA h (.cells #[(.int .u64 p0), (.int .u64 p1), (.int .u64 p2), (.int .u64 p3), (.int .u64 p4), (.int .u64 p5)] 35) fun b1 h2 =>
(newA h2 (.cells #[(.int .i64 (0 : Int)), (.int .i64 (0 : Int)), (.int .i64 (0 : Int)), (.bool false), (.bool false), (.bool false), (.int .u64 (0 : Int)), (.int .i64 (0 : Int)), (.int .u64 (0 : Int)), (.int .i64 (0 : Int)), (.int .i64 (0 : Int)), (.int .i64 (0 : Int)), (.int .i64 (0 : Int))] 107) fun b3 h4 =>
(newA h4 (.cells #[(.int .i64 (0 : Int))] 24) fun b5 h6 =>
(newA h6 (.cells #[(.slice (some (Addr.mk b1 0 none)) 6 6)] 178) fun b7 h8 =>
(f_call_reader_read (some (Addr.mk b7 0 none)) (fun n9 n10 n11 b12 b13 b14 n15 n16 n17 n18 n19 n20 n21 h22 =>
(aC (Addr.mk b3 0 none) (.int .i64 n9) h22 fun h40 =>
(aC (Addr.add (Addr.mk b3 0 none) 1) (.int .i64 n10) h40 fun h41 =>
(aC (Addr.add (Addr.mk b3 0 none) 2) (.int .i64 n11) h41 fun h42 =>
(aC (Addr.add (Addr.mk b3 0 none) 3) (.bool b12) h42 fun h43 =>
(aC (Addr.add (Addr.mk b3 0 none) 4) (.bool b13) h43 fun h44 =>
(aC (Addr.add (Addr.mk b3 0 none) 5) (.bool b14) h44 fun h45 =>
(aC (Addr.add (Addr.mk b3 0 none) 6) (.int .u64 n15) h45 fun h46 =>
(aC (Addr.add (Addr.mk b3 0 none) 7) (.int .i64 n16) h46 fun h47 =>
(aC (Addr.add (Addr.mk b3 0 none) 8) (.int .u64 n17) h47 fun h48 =>
(aC (Addr.add (Addr.mk b3 0 none) 9) (.int .i64 n18) h48 fun h49 =>
(aC (Addr.add (Addr.mk b3 0 none) 10) (.int .i64 n19) h49 fun h50 =>
(aC (Addr.add (Addr.mk b3 0 none) 11) (.int .i64 n20) h50 fun h51 =>
(aC (Addr.add (Addr.mk b3 0 none) 12) (.int .i64 n21) h51 fun h52 =>
(aC (Addr.mk b5 0 none) (.int .i64 (0 : Int)) h52 fun h53 =>
(f_call_Read_1_n (some (Addr.mk b3 0 none)) (some (Addr.mk b5 0 none)) (fun h54 =>
(aI .i64 (Addr.mk b3 0 none) h54 fun n55 =>
(aI .i64 (Addr.add (Addr.mk b3 0 none) 1) h54 fun n56 =>
(aI .i64 (Addr.add (Addr.mk b3 0 none) 2) h54 fun n57 =>
(aB (Addr.add (Addr.mk b3 0 none) 3) h54 fun b58 =>
(aB (Addr.add (Addr.mk b3 0 none) 4) h54 fun b59 =>
(aB (Addr.add (Addr.mk b3 0 none) 5) h54 fun b60 =>
(aI .u64 (Addr.add (Addr.mk b3 0 none) 6) h54 fun n61 =>
(aI .i64 (Addr.add (Addr.mk b3 0 none) 7) h54 fun n62 =>
(aI .u64 (Addr.add (Addr.mk b3 0 none) 8) h54 fun n63 =>
(aI .i64 (Addr.add (Addr.mk b3 0 none) 9) h54 fun n64 =>
(aI .i64 (Addr.add (Addr.mk b3 0 none) 10) h54 fun n65 =>
(aI .i64 (Addr.add (Addr.mk b3 0 none) 11) h54 fun n66 =>
(aI .i64 (Addr.add (Addr.mk b3 0 none) 12) h54 fun n67 =>
(aI .i64 (Addr.mk b5 0 none) h54 fun n68 =>
(Q n55 n56 n57 b58 b59 b60 n61 n62 n63 n64 n65 n66 n67 n68 h54)))))))))))))))) h53)))))))))))))))) (fun v23 h24 => (f_call_Read_1_v (some (Addr.mk b3 0 none)) (some (Addr.mk b5 0 none)) v23 (fun h25 =>
(aI .i64 (Addr.mk b3 0 none) h25 fun n26 =>
(aI .i64 (Addr.add (Addr.mk b3 0 none) 1) h25 fun n27 =>
(aI .i64 (Addr.add (Addr.mk b3 0 none) 2) h25 fun n28 =>
(aB (Addr.add (Addr.mk b3 0 none) 3) h25 fun b29 =>
(aB (Addr.add (Addr.mk b3 0 none) 4) h25 fun b30 =>
(aB (Addr.add (Addr.mk b3 0 none) 5) h25 fun b31 =>
(aI .u64 (Addr.add (Addr.mk b3 0 none) 6) h25 fun n32 =>
(aI .i64 (Addr.add (Addr.mk b3 0 none) 7) h25 fun n33 =>
(aI .u64 (Addr.add (Addr.mk b3 0 none) 8) h25 fun n34 =>
(aI .i64 (Addr.add (Addr.mk b3 0 none) 9) h25 fun n35 =>
(aI .i64 (Addr.add (Addr.mk b3 0 none) 10) h25 fun n36 =>
(aI .i64 (Addr.add (Addr.mk b3 0 none) 11) h25 fun n37 =>
(aI .i64 (Addr.add (Addr.mk b3 0 none) 12) h25 fun n38 =>
(aI .i64 (Addr.mk b5 0 none) h25 fun n39 =>
(Q n26 n27 n28 b29 b30 b31 n32 n33 n34 n35 n36 n37 n38 n39 h25)))))))))))))))) h24)) h8)))))
def call_Read_A : call_Read_T := call_Read_G call_reader_read_A call_Read_1_nA (call_Read_1_vA call_Read_1_pA)
def call_Read_W (f : call_Read_T) : ArS [.agg [(.i .u64), (.i .u64), (.i .u64), (.i .u64), (.i .u64), (.i .u64)]] EnR := fun p0 p1 p2 p3 p4 p5 K _Kp => f p0 p1 p2 p3 p4 p5 (fun r0 r1 r2 r3 r4 r5 r6 r7 r8 r9 r10 r11 r12 r13 => K (.tuple #[(.agg #[(.int .i64 r0), (.int .i64 r1), (.int .i64 r2), (.bool r3), (.bool r4), (.bool r5), (.int .u64 r6), (.int .i64 r7), (.int .u64 r8), (.int .i64 r9), (.int .i64 r10), (.int .i64 r11), (.int .i64 r12)]), (.int .i64 r13)]))

/- demesne/region.Find -/
abbrev region_Find_T := Sl → Int → (Int → Int → Bool → Bool → Bool → Int → Bool → AH → Prop) → AP
def region_Find_A (p0 : Sl) (p1 : Int) (Q : Int → Int → Bool → Bool → Bool → Int → Bool → AH → Prop) (h : AH) : Prop :=
(∃ I1 : Int → Int → Int → Bool → Bool → Bool → Int → Nat → AH → Prop, (∃ m2, I1 (0 : Int) (0 : Int) (0 : Int) false false false (0 : Int) m2 h) ∧ ∀ x5 : Int, ∀ c6 : Int, ∀ c7 : Int, ∀ c8 : Bool, ∀ c9 : Bool, ∀ c10 : Bool, ∀ c11 : Int, ∀ m2 h4, I1 x5 c6 c7 c8 c9 c10 c11 m2 h4 → 
(bsel (decide (x5 < (Int.ofNat p0.len)))
(onSome p0.a fun a12 =>
(inB x5 p0.len
(aI .i64 (Addr.add a12 (Int.toNat x5 * 6)) h4 fun n13 =>
(aI .i64 (Addr.add (Addr.add a12 (Int.toNat x5 * 6)) 1) h4 fun n14 =>
(aB (Addr.add (Addr.add a12 (Int.toNat x5 * 6)) 2) h4 fun b15 =>
(aB (Addr.add (Addr.add a12 (Int.toNat x5 * 6)) 3) h4 fun b16 =>
(aB (Addr.add (Addr.add a12 (Int.toNat x5 * 6)) 4) h4 fun b17 =>
(aI .i64 (Addr.add (Addr.add a12 (Int.toNat x5 * 6)) 5) h4 fun n18 =>
(bsel (decide (n13 ≤ p1))
(bsel (decide (p1 < n14))
(Q n13 n14 b15 b16 b17 n18 true h4)
(∃ m3, m3 < m2 ∧ I1 (IntKind.wrap .i64 (x5 + (1 : Int))) c6 c7 c8 c9 c10 c11 m3 h4))
(∃ m3, m3 < m2 ∧ I1 (IntKind.wrap .i64 (x5 + (1 : Int))) c6 c7 c8 c9 c10 c11 m3 h4))))))))))
(Q (0 : Int) (0 : Int) (false : Bool) (false : Bool) (false : Bool) (0 : Int) false h4)))
def region_Find_W (f : region_Find_T) : ArS [.c .s, .c (.i .i64)] EnR := fun p0 p1 K _Kp => f p0 p1 (fun r0 r1 r2 r3 r4 r5 r6 => K (.tuple #[(.agg #[(.int .i64 r0), (.int .i64 r1), (.bool r2), (.bool r3), (.bool r4), (.int .i64 r5)]), (.bool r6)]))

/- demesne/walk.May -/
abbrev walk_May_T := Bool → Bool → Bool → Bool → Bool → Bool → (Bool → AH → Prop) → AP
def walk_May_A (p0 : Bool) (p1 : Bool) (p2 : Bool) (p3 : Bool) (p4 : Bool) (p5 : Bool) (Q : Bool → AH → Prop) (h : AH) : Prop :=
(bsel p3
(bsel (!p0)
(Q false h)
(bsel p4
(bsel (!p1)
(Q false h)
(bsel p5
(Q (!(!p2)) h)
(Q true h)))
(bsel p5
(Q (!(!p2)) h)
(Q true h))))
(bsel p4
(bsel (!p1)
(Q false h)
(bsel p5
(Q (!(!p2)) h)
(Q true h)))
(bsel p5
(Q (!(!p2)) h)
(Q true h))))
def walk_May_W (f : walk_May_T) : ArS [.agg [.b, .b, .b], .agg [.b, .b, .b]] EnR := fun p0 p1 p2 p3 p4 p5 K _Kp => f p0 p1 p2 p3 p4 p5 (fun r0 => K (.bool r0))

/- demesne/trap.Raise: nothing is said of it -/
abbrev trap_Raise_T := Int → Int → Int → Int → Int → Int → Bool → Int → Int → Int → Int → Int → Int → Int → Int → (Int → Int → Int → Int → Int → Int → Bool → Int → Int → Int → Int → Int → Int → Int → AH → Prop) → AP
def trap_Raise_A : trap_Raise_T := fun _ _ _ _ _ _ _ _ _ _ _ _ _ _ _ _ _ => False
def trap_Raise_W (f : trap_Raise_T) : ArS [.agg [(.i .u64), (.i .u64), (.i .u64), (.i .u64), (.i .i64), (.i .u64), .b, (.i .u64), (.i .i64), (.i .u64), (.i .u64), (.i .u64), (.i .u64)], .agg [(.i .u64), (.i .i64)]] EnR := fun p0 p1 p2 p3 p4 p5 p6 p7 p8 p9 p10 p11 p12 p13 p14 K _Kp => f p0 p1 p2 p3 p4 p5 p6 p7 p8 p9 p10 p11 p12 p13 p14 (fun r0 r1 r2 r3 r4 r5 r6 r7 r8 r9 r10 r11 r12 r13 => K (.tuple #[(.agg #[(.int .u64 r0), (.int .u64 r1), (.int .u64 r2), (.int .u64 r3), (.int .i64 r4), (.int .u64 r5), (.bool r6), (.int .u64 r7), (.int .i64 r8), (.int .u64 r9), (.int .u64 r10), (.int .u64 r11), (.int .u64 r12)]), (.int .i64 r13)]))

/- (*demesne/flat.proc).shared -/
abbrev flat_proc_shared_T := Option Addr → Int → (Int → AH → Prop) → AP
def flat_proc_shared_A (p0 : Option Addr) (p1 : Int) (Q : Int → AH → Prop) (h : AH) : Prop :=
(∃ I1 : Int → Int → Nat → AH → Prop, (∃ m2, I1 (0 : Int) (9 : Int) m2 h) ∧ ∀ x5 : Int, ∀ x6 : Int, ∀ m2 h4, I1 x5 x6 m2 h4 → 
(bsel (decide (x6 ≤ (27 : Int)))
(∃ R7 : Int → AH → Prop, (∀ x27 : Int, ∀ h28, R7 x27 h28 → 
(∃ m3, m3 < m2 ∧ I1 x27 (IntKind.wrap .i64 (x6 + (9 : Int))) m3 h28)) ∧
(onSome p0 fun a8 =>
(aM (Addr.add a8 16) h4 fun mp9 =>
(rgA h4 mp9 fun a10 h11 =>
(∃ I12 : Int → Nat → AH → Prop, (∃ m13, I12 x5 m13 h11) ∧ ∀ x16 : Int, ∀ m13 h15, I12 x16 m13 h15 → 
(∃ R17 : Bool → AH → Prop, (∀ b23 : Bool, ∀ h24, R17 b23 h24 → 
(bsel b23
(aEy h24 a10 fun n25 v26 =>
(bsel (n25 != p1)
(bsel (decide (x6 < 0)) False
(bsel (decide (x6 < 0)) False
(bsel ((Int.fdiv n25 (2 ^ (min (Int.toNat x6) 64))) == (Int.fdiv p1 (2 ^ (min (Int.toNat x6) 64))))
(R7 (IntKind.wrap .i64 (x16 + (1 : Int))) h24)
(∃ m14, m14 < m13 ∧ I12 x16 m14 h24))))
(∃ m14, m14 < m13 ∧ I12 x16 m14 h24)))
(R7 x16 h24))) ∧
(aNx h15 a10 (fun h22 =>
(R17 false h22)) fun k18 v19 h21 =>
∃ n20 : Int, (k18 : Value) = (.int .i64 n20) ∧
(R17 true h21))))))))
(Q x5 h4)))
def flat_proc_shared_W (f : flat_proc_shared_T) : ArS [.c .p, .c (.i .i64)] EnR := fun p0 p1 K _Kp => f p0 p1 (fun r0 => K (.int .i64 r0))

/- (*demesne/flat.Model).add -/
abbrev flat_Model_add_T := Option Addr → Option Addr → Int → Option Addr → Bool → (Int → AH → Prop) → AP
def flat_Model_add_G (f_flat_proc_shared : flat_proc_shared_T) (f_quota_Tree_Charge : quota_Tree_Charge_T) (p0 : Option Addr) (p1 : Option Addr) (p2 : Int) (p3 : Option Addr) (p4 : Bool) (Q : Int → AH → Prop) (h : AH) : Prop :=
(f_flat_proc_shared p1 p2 (fun n1 h2 =>
(∃ R3 : Int → AH → Prop, (∀ x4 : Int, ∀ h5, R3 x4 h5 → 
(onSome p0 fun a6 =>
(aP a6 h5 fun pt7 =>
(onSome p1 fun a8 =>
(aI .i64 a8 h5 fun n9 =>
(f_quota_Tree_Charge pt7 n9 x4 (fun n10 h11 =>
(∃ R12 : AH → Prop, (∀ h16, R12 h16 → 
(Q n10 h16)) ∧
(bsel (n10 == (0 : Int))
(onSome p1 fun a13 =>
(aM (Addr.add a13 16) h11 fun mp14 =>
(aMSt h11 mp14 .i64 p2 (.pointer p3) fun h15 =>
(R12 h15))))
(R12 h11)))) h5)))))) ∧
(bsel p4
(R3 (IntKind.wrap .i64 ((IntKind.wrap .i64 ((3 : Int) - n1)) + (1 : Int))) h2)
(R3 (IntKind.wrap .i64 ((3 : Int) - n1)) h2)))) h)
def flat_Model_add_A : flat_Model_add_T := flat_Model_add_G flat_proc_shared_A quota_Tree_Charge_A
def flat_Model_add_W (f : flat_Model_add_T) : ArS [.c .p, .c .p, .c (.i .i64), .c .p, .c .b] EnR := fun p0 p1 p2 p3 p4 K _Kp => f p0 p1 p2 p3 p4 (fun r0 => K (.int .i64 r0))

/- (*demesne/flat.Model).memory -/
abbrev flat_Model_memory_T := Option Addr → Option Addr → Int → Int → Int → Bool → Bool → Bool → Int → Int → Int → Int → Int → Int → Int → Option Addr → (AH → Prop) → AP
def flat_Model_memory_G (f_region_Find : region_Find_T) (f_walk_May : walk_May_T) (f_trap_Raise : trap_Raise_T) (f_flat_Model_add : flat_Model_add_T) (p0 : Option Addr) (p1 : Option Addr) (p2 : Int) (_p3 : Int) (_p4 : Int) (_p5 : Bool) (_p6 : Bool) (_p7 : Bool) (p8 : Int) (p9 : Int) (p10 : Int) (_p11 : Int) (_p12 : Int) (_p13 : Int) (_p14 : Int) (p15 : Option Addr) (Q : AH → Prop) (h : AH) : Prop :=
(onSome p1 fun a1 =>
(aS (Addr.add a1 15) h fun s2 =>
(f_region_Find s2 (IntKind.wrap .i64 (IntKind.wrap .u64 (Int.tdiv p8 (4096 : Int)))) (fun n3 n4 b5 b6 b7 n8 b9 h10 =>
(onSome p1 fun a11 =>
(aM (Addr.add a11 16) h10 fun mp12 =>
(aLk h10 mp12 .i64 (IntKind.wrap .i64 (IntKind.wrap .u64 (Int.tdiv p8 (4096 : Int)))) fun o13 =>
(∃ pt14 : Option Addr, ((o13.getD (.pointer none)) : Value) = (.pointer pt14) ∧
(∃ R15 : AH → Prop, (∀ h86, R15 h86 → 
(∃ R87 : Option Addr → AH → Prop, (∀ pt98 : Option Addr, ∀ h99, R87 pt98 h99 → 
(∃ I100 : Int → Nat → AH → Prop, (∃ m101, I100 (0 : Int) m101 h99) ∧ ∀ x104 : Int, ∀ m101 h103, I100 x104 m101 h103 → 
(bsel (decide (x104 < p9))
(∃ R105 : AH → Prop, (∀ h115, R105 h115 → 
(∃ m102, m102 < m101 ∧ I100 (IntKind.wrap .i64 (x104 + (1 : Int))) m102 h115)) ∧
(onSome pt98 fun a106 =>
(aP a106 h103 fun pt107 =>
(onSome pt107 fun a108 =>
(inB (IntKind.wrap .u64 ((Int.tmod p8 (4096 : Int)) + (IntKind.wrap .u64 x104))) 4096
(bsel (p2 == (5 : Int))
(bsel (decide ((IntKind.wrap .i64 ((8 : Int) * x104)) < 0)) False
(aC (Addr.add a108 (Int.toNat (IntKind.wrap .u64 ((Int.tmod p8 (4096 : Int)) + (IntKind.wrap .u64 x104))) * 1)) (.int .u8 (IntKind.wrap .u8 (Int.fdiv p10 (2 ^ (min (Int.toNat (IntKind.wrap .i64 ((8 : Int) * x104))) 64))))) h103 fun h109 =>
(R105 h109)))
(onSome p15 fun a110 =>
(aI .u64 (Addr.add a110 1) h103 fun n111 =>
(aI .u8 (Addr.add a108 (Int.toNat (IntKind.wrap .u64 ((Int.tmod p8 (4096 : Int)) + (IntKind.wrap .u64 x104))) * 1)) h103 fun n112 =>
(bsel (decide ((IntKind.wrap .i64 ((8 : Int) * x104)) < 0)) False
(onSome p15 fun a113 =>
(aC (Addr.add a113 1) (.int .u64 (bits .or .u64 n111 (IntKind.wrap .u64 ((IntKind.wrap .u64 n112) * 2 ^ (min (Int.toNat (IntKind.wrap .i64 ((8 : Int) * x104))) 64))))) h103 fun h114 =>
(R105 h114)))))))))))))
(Q h103)))) ∧
(bsel pt14.isNone
(newA h86 (.cells (Array.replicate 4096 (.int .u8 (0 : Int))) 191) fun b88 h89 =>
(newA h89 (.cells #[(.pointer (some (Addr.mk b88 0 none))), (.int .i64 (0 : Int))] 193) fun b90 h91 =>
(f_flat_Model_add p0 p1 (IntKind.wrap .i64 (IntKind.wrap .u64 (Int.tdiv p8 (4096 : Int)))) (some (Addr.mk b90 0 none)) true (fun n92 h93 =>
(onSome p15 fun a94 =>
(aC (Addr.add a94 2) (.int .i64 n92) h93 fun h95 =>
(onSome p15 fun a96 =>
(aI .i64 (Addr.add a96 2) h95 fun n97 =>
(bsel (n97 != (0 : Int))
(Q h95)
(R87 (some (Addr.mk b90 0 none)) h95))))))) h91)))
(R87 pt14 h86)))) ∧
(∃ R16 : Bool → AH → Prop, (∀ b19 : Bool, ∀ h20, R16 b19 h20 → 
(bsel b19
(onSome p15 fun a21 =>
(aC (Addr.add a21 2) (.int .i64 (9 : Int)) h20 fun h22 =>
(onSome p15 fun a23 =>
(aC (Addr.add a23 3) (.int .u64 p8) h22 fun h24 =>
(aC (Addr.add (Addr.add a23 3) 1) (.int .i64 (4 : Int)) h24 fun h25 =>
(∃ R26 : AH → Prop, (∀ h31, R26 h31 → 
(∃ R32 : AH → Prop, (∀ h37, R32 h37 → 
(onSome p1 fun a38 =>
(onSome p15 fun a39 =>
(aI .u64 (Addr.add a38 2) h37 fun n40 =>
(aI .u64 (Addr.add (Addr.add a38 2) 1) h37 fun n41 =>
(aI .u64 (Addr.add (Addr.add a38 2) 2) h37 fun n42 =>
(aI .u64 (Addr.add (Addr.add a38 2) 3) h37 fun n43 =>
(aI .i64 (Addr.add (Addr.add a38 2) 4) h37 fun n44 =>
(aI .u64 (Addr.add (Addr.add a38 2) 5) h37 fun n45 =>
(aB (Addr.add (Addr.add a38 2) 6) h37 fun b46 =>
(aI .u64 (Addr.add (Addr.add a38 2) 7) h37 fun n47 =>
(aI .i64 (Addr.add (Addr.add a38 2) 8) h37 fun n48 =>
(aI .u64 (Addr.add (Addr.add a38 2) 9) h37 fun n49 =>
(aI .u64 (Addr.add (Addr.add a38 2) 10) h37 fun n50 =>
(aI .u64 (Addr.add (Addr.add a38 2) 11) h37 fun n51 =>
(aI .u64 (Addr.add (Addr.add a38 2) 12) h37 fun n52 =>
(aI .u64 (Addr.add a39 3) h37 fun n53 =>
(aI .i64 (Addr.add (Addr.add a39 3) 1) h37 fun n54 =>
(f_trap_Raise n40 n41 n42 n43 n44 n45 b46 n47 n48 n49 n50 n51 n52 n53 n54 (fun n55 n56 n57 n58 n59 n60 b61 n62 n63 n64 n65 n66 n67 n68 h69 =>
(onSome p1 fun a70 =>
(aC (Addr.add a70 2) (.int .u64 n55) h69 fun h71 =>
(aC (Addr.add (Addr.add a70 2) 1) (.int .u64 n56) h71 fun h72 =>
(aC (Addr.add (Addr.add a70 2) 2) (.int .u64 n57) h72 fun h73 =>
(aC (Addr.add (Addr.add a70 2) 3) (.int .u64 n58) h73 fun h74 =>
(aC (Addr.add (Addr.add a70 2) 4) (.int .i64 n59) h74 fun h75 =>
(aC (Addr.add (Addr.add a70 2) 5) (.int .u64 n60) h75 fun h76 =>
(aC (Addr.add (Addr.add a70 2) 6) (.bool b61) h76 fun h77 =>
(aC (Addr.add (Addr.add a70 2) 7) (.int .u64 n62) h77 fun h78 =>
(aC (Addr.add (Addr.add a70 2) 8) (.int .i64 n63) h78 fun h79 =>
(aC (Addr.add (Addr.add a70 2) 9) (.int .u64 n64) h79 fun h80 =>
(aC (Addr.add (Addr.add a70 2) 10) (.int .u64 n65) h80 fun h81 =>
(aC (Addr.add (Addr.add a70 2) 11) (.int .u64 n66) h81 fun h82 =>
(aC (Addr.add (Addr.add a70 2) 12) (.int .u64 n67) h82 fun h83 =>
(onSome p15 fun a84 =>
(aC (Addr.add a84 5) (.bool (n68 == (0 : Int))) h83 fun h85 =>
(Q h85)))))))))))))))))) h37))))))))))))))))))) ∧
(bsel b9
(bsel (!pt14.isNone)
(onSome p15 fun a33 =>
(aI .i64 (Addr.add (Addr.add a33 3) 1) h31 fun n34 =>
(onSome p15 fun a35 =>
(aC (Addr.add (Addr.add a35 3) 1) (.int .i64 (bits .or .i64 n34 (1 : Int))) h31 fun h36 =>
(R32 h36)))))
(R32 h31))
(R32 h31)))) ∧
(bsel (p2 == (5 : Int))
(onSome p15 fun a27 =>
(aI .i64 (Addr.add (Addr.add a27 3) 1) h25 fun n28 =>
(onSome p15 fun a29 =>
(aC (Addr.add (Addr.add a29 3) 1) (.int .i64 (bits .or .i64 n28 (2 : Int))) h25 fun h30 =>
(R26 h30)))))
(R26 h25))))))))
(R15 h20))) ∧
(bsel (!b9)
(R16 true h10)
(f_walk_May b5 b6 b7 (p2 == (5 : Int)) true false (fun b17 h18 =>
(R16 (!b17) h18)) h10))))))))) h)))
def flat_Model_memory_A : flat_Model_memory_T := flat_Model_memory_G region_Find_A walk_May_A trap_Raise_A flat_Model_add_A
def flat_Model_memory_W (f : flat_Model_memory_T) : ArS [.c .p, .c .p, .agg [(.i .i64), (.i .i64), (.i .i64), .b, .b, .b, (.i .u64), (.i .i64), (.i .u64), (.i .i64), (.i .i64), (.i .i64), (.i .i64)], .c .p] EnR := fun p0 p1 p2 p3 p4 p5 p6 p7 p8 p9 p10 p11 p12 p13 p14 p15 K _Kp => f p0 p1 p2 p3 p4 p5 p6 p7 p8 p9 p10 p11 p12 p13 p14 p15 (K (.tuple #[]))

/- demesne/region.right -/
abbrev region_right_T := Int → Int → (Bool → AH → Prop) → AP
def region_right_A (p0 : Int) (p1 : Int) (Q : Bool → AH → Prop) (h : AH) : Prop :=
(bsel (decide (p0 ≥ (0 : Int)))
(bsel (decide (p1 > p0))
(bsel (decide (p1 ≤ (34359738368 : Int)))
(Q (decide ((IntKind.wrap .i64 (p1 - p0)) ≤ (65536 : Int))) h)
(Q false h))
(Q false h))
(Q false h))
def region_right_W (f : region_right_T) : ArS [.agg [(.i .i64), (.i .i64)]] EnR := fun p0 p1 K _Kp => f p0 p1 (fun r0 => K (.bool r0))

/- demesne/region.joins -/
abbrev region_joins_T := Int → Int → Bool → Bool → Bool → Int → Int → Int → Bool → Bool → Bool → Int → (Bool → AH → Prop) → AP
def region_joins_A (_p0 : Int) (p1 : Int) (p2 : Bool) (p3 : Bool) (p4 : Bool) (p5 : Int) (p6 : Int) (_p7 : Int) (p8 : Bool) (p9 : Bool) (p10 : Bool) (p11 : Int) (Q : Bool → AH → Prop) (h : AH) : Prop :=
(bsel (p1 == p6)
(bsel ((p2 == p8) && ((p3 == p9) && ((p4 == p10) && true)))
(Q (p5 == p11) h)
(Q false h))
(Q false h))
def region_joins_W (f : region_joins_T) : ArS [.agg [(.i .i64), (.i .i64), .b, .b, .b, (.i .i64)], .agg [(.i .i64), (.i .i64), .b, .b, .b, (.i .i64)]] EnR := fun p0 p1 p2 p3 p4 p5 p6 p7 p8 p9 p10 p11 K _Kp => f p0 p1 p2 p3 p4 p5 p6 p7 p8 p9 p10 p11 (fun r0 => K (.bool r0))

/- demesne/region.Good -/
abbrev region_Good_T := Sl → (Bool → AH → Prop) → AP
def region_Good_G (f_region_joins : region_joins_T) (p0 : Sl) (Q : Bool → AH → Prop) (h : AH) : Prop :=
(bsel (decide ((Int.ofNat p0.len) > (64 : Int)))
(Q false h)
(∃ I1 : Int → Nat → AH → Prop, (∃ m2, I1 (0 : Int) m2 h) ∧ ∀ x5 : Int, ∀ m2 h4, I1 x5 m2 h4 → 
(bsel (decide (x5 < (Int.ofNat p0.len)))
(onSome p0.a fun a6 =>
(inB x5 p0.len
(aI .i64 (Addr.add a6 (Int.toNat x5 * 6)) h4 fun n7 =>
(aI .i64 (Addr.add (Addr.add a6 (Int.toNat x5 * 6)) 1) h4 fun n8 =>
(aB (Addr.add (Addr.add a6 (Int.toNat x5 * 6)) 2) h4 fun b9 =>
(aB (Addr.add (Addr.add a6 (Int.toNat x5 * 6)) 3) h4 fun b10 =>
(aB (Addr.add (Addr.add a6 (Int.toNat x5 * 6)) 4) h4 fun b11 =>
(aI .i64 (Addr.add (Addr.add a6 (Int.toNat x5 * 6)) 5) h4 fun n12 =>
(bsel (decide (n7 < (0 : Int)))
(Q false h4)
(bsel (decide (n8 ≤ n7))
(Q false h4)
(bsel (decide (n8 > (34359738368 : Int)))
(Q false h4)
(bsel (decide (x5 > (0 : Int)))
(onSome p0.a fun a13 =>
(inB (IntKind.wrap .i64 (x5 - (1 : Int))) p0.len
(aI .i64 (Addr.add (Addr.add a13 (Int.toNat (IntKind.wrap .i64 (x5 - (1 : Int))) * 6)) 1) h4 fun n14 =>
(bsel (decide (n14 > n7))
(Q false h4)
(onSome p0.a fun a15 =>
(inB (IntKind.wrap .i64 (x5 - (1 : Int))) p0.len
(aI .i64 (Addr.add a15 (Int.toNat (IntKind.wrap .i64 (x5 - (1 : Int))) * 6)) h4 fun n16 =>
(aI .i64 (Addr.add (Addr.add a15 (Int.toNat (IntKind.wrap .i64 (x5 - (1 : Int))) * 6)) 1) h4 fun n17 =>
(aB (Addr.add (Addr.add a15 (Int.toNat (IntKind.wrap .i64 (x5 - (1 : Int))) * 6)) 2) h4 fun b18 =>
(aB (Addr.add (Addr.add a15 (Int.toNat (IntKind.wrap .i64 (x5 - (1 : Int))) * 6)) 3) h4 fun b19 =>
(aB (Addr.add (Addr.add a15 (Int.toNat (IntKind.wrap .i64 (x5 - (1 : Int))) * 6)) 4) h4 fun b20 =>
(aI .i64 (Addr.add (Addr.add a15 (Int.toNat (IntKind.wrap .i64 (x5 - (1 : Int))) * 6)) 5) h4 fun n21 =>
(f_region_joins n16 n17 b18 b19 b20 n21 n7 n8 b9 b10 b11 n12 (fun b22 h23 =>
(bsel b22
(Q false h23)
(∃ m3, m3 < m2 ∧ I1 (IntKind.wrap .i64 (x5 + (1 : Int))) m3 h23))) h4)))))))))))))
(∃ m3, m3 < m2 ∧ I1 (IntKind.wrap .i64 (x5 + (1 : Int))) m3 h4)))))))))))))
(Q true h4))))
def region_Good_A : region_Good_T := region_Good_G region_joins_A
def region_Good_W (f : region_Good_T) : ArS [.c .s] EnR := fun p0 K _Kp => f p0 (fun r0 => K (.bool r0))

/- slices.Clone[demesne/region.List,demesne/region.Region] -/
abbrev slices_Clone_region_List_region_Region_T := Sl → (Sl → AH → Prop) → AP
def slices_Clone_region_List_region_Region_A (p0 : Sl) (Q : Sl → AH → Prop) (h : AH) : Prop :=
(bsel (Option.isNone p0.a)
(Q Sl.nil h)
(newA h (.cells #[] 181) fun b1 h2 =>
(apA 6 32 #[(.int .i64 (0 : Int)), (.int .i64 (0 : Int)), (.bool false), (.bool false), (.bool false), (.int .i64 (0 : Int))] 181 (Sl.mk (some (Addr.mk b1 0 none)) 0 0) p0 h2 fun s3 h4 =>
(Q s3 h4))))
def slices_Clone_region_List_region_Region_W (f : slices_Clone_region_List_region_Region_T) : ArS [.c .s] EnR := fun p0 K _Kp => f p0 (fun r0 => K (.slice r0.a r0.len r0.cap))

/- slices.overlaps[demesne/region.Region]: what the model answers at once -/
abbrev slices_overlaps_region_Region_T := Sl → Sl → (Bool → AH → Prop) → AP
def slices_overlaps_region_Region_A : slices_overlaps_region_Region_T := ovA
def slices_overlaps_region_Region_W (f : slices_overlaps_region_Region_T) : ArS [.c .s, .c .s] EnR := fun p0 p1 K _Kp => f p0 p1 (fun r0 => K (.bool r0))

/- slices.Reverse[[]demesne/region.Region,demesne/region.Region] -/
abbrev slices_Reverse_region_Region_region_Region_T := Sl → (AH → Prop) → AP
def slices_Reverse_region_Region_region_Region_A (p0 : Sl) (Q : AH → Prop) (h : AH) : Prop :=
(∃ I1 : Int → Int → Nat → AH → Prop, (∃ m2, I1 (0 : Int) (IntKind.wrap .i64 ((Int.ofNat p0.len) - (1 : Int))) m2 h) ∧ ∀ x5 : Int, ∀ x6 : Int, ∀ m2 h4, I1 x5 x6 m2 h4 → 
(bsel (decide (x5 < x6))
(onSome p0.a fun a7 =>
(inB x6 p0.len
(onSome p0.a fun a8 =>
(inB x5 p0.len
(aI .i64 (Addr.add a7 (Int.toNat x6 * 6)) h4 fun n9 =>
(aI .i64 (Addr.add (Addr.add a7 (Int.toNat x6 * 6)) 1) h4 fun n10 =>
(aB (Addr.add (Addr.add a7 (Int.toNat x6 * 6)) 2) h4 fun b11 =>
(aB (Addr.add (Addr.add a7 (Int.toNat x6 * 6)) 3) h4 fun b12 =>
(aB (Addr.add (Addr.add a7 (Int.toNat x6 * 6)) 4) h4 fun b13 =>
(aI .i64 (Addr.add (Addr.add a7 (Int.toNat x6 * 6)) 5) h4 fun n14 =>
(aI .i64 (Addr.add a8 (Int.toNat x5 * 6)) h4 fun n15 =>
(aI .i64 (Addr.add (Addr.add a8 (Int.toNat x5 * 6)) 1) h4 fun n16 =>
(aB (Addr.add (Addr.add a8 (Int.toNat x5 * 6)) 2) h4 fun b17 =>
(aB (Addr.add (Addr.add a8 (Int.toNat x5 * 6)) 3) h4 fun b18 =>
(aB (Addr.add (Addr.add a8 (Int.toNat x5 * 6)) 4) h4 fun b19 =>
(aI .i64 (Addr.add (Addr.add a8 (Int.toNat x5 * 6)) 5) h4 fun n20 =>
(onSome p0.a fun a21 =>
(inB x5 p0.len
(aC (Addr.add a21 (Int.toNat x5 * 6)) (.int .i64 n9) h4 fun h22 =>
(aC (Addr.add (Addr.add a21 (Int.toNat x5 * 6)) 1) (.int .i64 n10) h22 fun h23 =>
(aC (Addr.add (Addr.add a21 (Int.toNat x5 * 6)) 2) (.bool b11) h23 fun h24 =>
(aC (Addr.add (Addr.add a21 (Int.toNat x5 * 6)) 3) (.bool b12) h24 fun h25 =>
(aC (Addr.add (Addr.add a21 (Int.toNat x5 * 6)) 4) (.bool b13) h25 fun h26 =>
(aC (Addr.add (Addr.add a21 (Int.toNat x5 * 6)) 5) (.int .i64 n14) h26 fun h27 =>
(onSome p0.a fun a28 =>
(inB x6 p0.len
(aC (Addr.add a28 (Int.toNat x6 * 6)) (.int .i64 n15) h27 fun h29 =>
(aC (Addr.add (Addr.add a28 (Int.toNat x6 * 6)) 1) (.int .i64 n16) h29 fun h30 =>
(aC (Addr.add (Addr.add a28 (Int.toNat x6 * 6)) 2) (.bool b17) h30 fun h31 =>
(aC (Addr.add (Addr.add a28 (Int.toNat x6 * 6)) 3) (.bool b18) h31 fun h32 =>
(aC (Addr.add (Addr.add a28 (Int.toNat x6 * 6)) 4) (.bool b19) h32 fun h33 =>
(aC (Addr.add (Addr.add a28 (Int.toNat x6 * 6)) 5) (.int .i64 n20) h33 fun h34 =>
(∃ m3, m3 < m2 ∧ I1 (IntKind.wrap .i64 (x5 + (1 : Int))) (IntKind.wrap .i64 (x6 - (1 : Int))) m3 h34)))))))))))))))))))))))))))))))))
(Q h4)))
def slices_Reverse_region_Region_region_Region_W (f : slices_Reverse_region_Region_region_Region_T) : ArS [.c .s] EnR := fun p0 K _Kp => f p0 (K (.tuple #[]))

/- slices.rotateLeft[demesne/region.Region] -/
abbrev slices_rotateLeft_region_Region_T := Sl → Int → (AH → Prop) → AP
def slices_rotateLeft_region_Region_G (f_slices_Reverse_region_Region_region_Region : slices_Reverse_region_Region_region_Region_T) (p0 : Sl) (p1 : Int) (Q : AH → Prop) (h : AH) : Prop :=
(inB p1 (p0.cap + 1)
(f_slices_Reverse_region_Region_region_Region (Sl.mk (if p0.cap = 0 then p0.a else Option.map (fun x => Addr.add x (0 * 6)) p0.a) (Int.toNat p1) p0.cap) (fun h1 =>
(inB p1 (p0.len + 1)
(f_slices_Reverse_region_Region_region_Region (Sl.mk (if p0.cap = (Int.toNat p1) then p0.a else Option.map (fun x => Addr.add x ((Int.toNat p1) * 6)) p0.a) (p0.len - (Int.toNat p1)) (p0.cap - (Int.toNat p1))) (fun h2 =>
(f_slices_Reverse_region_Region_region_Region p0 (fun h3 =>
(Q h3)) h2)) h1))) h))
def slices_rotateLeft_region_Region_A : slices_rotateLeft_region_Region_T := slices_rotateLeft_region_Region_G slices_Reverse_region_Region_region_Region_A
def slices_rotateLeft_region_Region_W (f : slices_rotateLeft_region_Region_T) : ArS [.c .s, .c (.i .i64)] EnR := fun p0 p1 K _Kp => f p0 p1 (K (.tuple #[]))

/- slices.rotateRight[demesne/region.Region] -/
abbrev slices_rotateRight_region_Region_T := Sl → Int → (AH → Prop) → AP
def slices_rotateRight_region_Region_G (f_slices_rotateLeft_region_Region : slices_rotateLeft_region_Region_T) (p0 : Sl) (p1 : Int) (Q : AH → Prop) (h : AH) : Prop :=
(f_slices_rotateLeft_region_Region p0 (IntKind.wrap .i64 ((Int.ofNat p0.len) - p1)) (fun h1 =>
(Q h1)) h)
def slices_rotateRight_region_Region_A : slices_rotateRight_region_Region_T := slices_rotateRight_region_Region_G slices_rotateLeft_region_Region_A
def slices_rotateRight_region_Region_W (f : slices_rotateRight_region_Region_T) : ArS [.c .s, .c (.i .i64)] EnR := fun p0 p1 K _Kp => f p0 p1 (K (.tuple #[]))

/- slices.Insert[demesne/region.List,demesne/region.Region] -/
abbrev slices_Insert_region_List_region_Region_T := Sl → Int → Sl → (Sl → AH → Prop) → AP
def slices_Insert_region_List_region_Region_G (f_slices_overlaps_region_Region : slices_overlaps_region_Region_T) (f_slices_rotateRight_region_Region : slices_rotateRight_region_Region_T) (p0 : Sl) (p1 : Int) (p2 : Sl) (Q : Sl → AH → Prop) (h : AH) : Prop :=
(inB p1 (p0.len + 1)
(bsel ((Int.ofNat p2.len) == (0 : Int))
(Q p0 h)
(bsel (p1 == (Int.ofNat p0.len))
(apA 6 32 #[(.int .i64 (0 : Int)), (.int .i64 (0 : Int)), (.bool false), (.bool false), (.bool false), (.int .i64 (0 : Int))] 181 p0 p2 h fun s1 h2 =>
(Q s1 h2))
(bsel (decide ((IntKind.wrap .i64 ((Int.ofNat p0.len) + (Int.ofNat p2.len))) > (Int.ofNat p0.cap)))
(inB p1 (p0.cap + 1)
(apZ 6 32 #[(.int .i64 (0 : Int)), (.int .i64 (0 : Int)), (.bool false), (.bool false), (.bool false), (.int .i64 (0 : Int))] 181 (Sl.mk (if p0.cap = 0 then p0.a else Option.map (fun x => Addr.add x (0 * 6)) p0.a) (Int.toNat p1) p0.cap) (IntKind.wrap .i64 ((IntKind.wrap .i64 ((Int.ofNat p0.len) + (Int.ofNat p2.len))) - p1)) h fun s3 h4 =>
(inB p1 (s3.len + 1)
(cpA 6 (Sl.mk (if s3.cap = (Int.toNat p1) then s3.a else Option.map (fun x => Addr.add x ((Int.toNat p1) * 6)) s3.a) (s3.len - (Int.toNat p1)) (s3.cap - (Int.toNat p1))) p2 h4 fun n5 h6 =>
(inB (IntKind.wrap .i64 (p1 + (Int.ofNat p2.len))) (s3.len + 1)
(inB p1 (p0.len + 1)
(cpA 6 (Sl.mk (if s3.cap = (Int.toNat (IntKind.wrap .i64 (p1 + (Int.ofNat p2.len)))) then s3.a else Option.map (fun x => Addr.add x ((Int.toNat (IntKind.wrap .i64 (p1 + (Int.ofNat p2.len)))) * 6)) s3.a) (s3.len - (Int.toNat (IntKind.wrap .i64 (p1 + (Int.ofNat p2.len))))) (s3.cap - (Int.toNat (IntKind.wrap .i64 (p1 + (Int.ofNat p2.len)))))) (Sl.mk (if p0.cap = (Int.toNat p1) then p0.a else Option.map (fun x => Addr.add x ((Int.toNat p1) * 6)) p0.a) (p0.len - (Int.toNat p1)) (p0.cap - (Int.toNat p1))) h6 fun n7 h8 =>
(Q s3 h8))))))))
(inB (IntKind.wrap .i64 ((Int.ofNat p0.len) + (Int.ofNat p2.len))) (p0.cap + 1)
(inB (IntKind.wrap .i64 (p1 + (Int.ofNat p2.len))) ((Int.toNat (IntKind.wrap .i64 ((Int.ofNat p0.len) + (Int.ofNat p2.len)))) + 1)
(f_slices_overlaps_region_Region p2 (Sl.mk (if p0.cap = (Int.toNat (IntKind.wrap .i64 (p1 + (Int.ofNat p2.len)))) then (if p0.cap = 0 then p0.a else Option.map (fun x => Addr.add x (0 * 6)) p0.a) else Option.map (fun x => Addr.add x ((Int.toNat (IntKind.wrap .i64 (p1 + (Int.ofNat p2.len)))) * 6)) (if p0.cap = 0 then p0.a else Option.map (fun x => Addr.add x (0 * 6)) p0.a)) ((Int.toNat (IntKind.wrap .i64 ((Int.ofNat p0.len) + (Int.ofNat p2.len)))) - (Int.toNat (IntKind.wrap .i64 (p1 + (Int.ofNat p2.len))))) (p0.cap - (Int.toNat (IntKind.wrap .i64 (p1 + (Int.ofNat p2.len)))))) (fun b9 h10 =>
(bsel (!b9)
(inB (IntKind.wrap .i64 (p1 + (Int.ofNat p2.len))) ((Int.toNat (IntKind.wrap .i64 ((Int.ofNat p0.len) + (Int.ofNat p2.len)))) + 1)
(inB p1 ((Int.toNat (IntKind.wrap .i64 ((Int.ofNat p0.len) + (Int.ofNat p2.len)))) + 1)
(cpA 6 (Sl.mk (if p0.cap = (Int.toNat (IntKind.wrap .i64 (p1 + (Int.ofNat p2.len)))) then (if p0.cap = 0 then p0.a else Option.map (fun x => Addr.add x (0 * 6)) p0.a) else Option.map (fun x => Addr.add x ((Int.toNat (IntKind.wrap .i64 (p1 + (Int.ofNat p2.len)))) * 6)) (if p0.cap = 0 then p0.a else Option.map (fun x => Addr.add x (0 * 6)) p0.a)) ((Int.toNat (IntKind.wrap .i64 ((Int.ofNat p0.len) + (Int.ofNat p2.len)))) - (Int.toNat (IntKind.wrap .i64 (p1 + (Int.ofNat p2.len))))) (p0.cap - (Int.toNat (IntKind.wrap .i64 (p1 + (Int.ofNat p2.len)))))) (Sl.mk (if p0.cap = (Int.toNat p1) then (if p0.cap = 0 then p0.a else Option.map (fun x => Addr.add x (0 * 6)) p0.a) else Option.map (fun x => Addr.add x ((Int.toNat p1) * 6)) (if p0.cap = 0 then p0.a else Option.map (fun x => Addr.add x (0 * 6)) p0.a)) ((Int.toNat (IntKind.wrap .i64 ((Int.ofNat p0.len) + (Int.ofNat p2.len)))) - (Int.toNat p1)) (p0.cap - (Int.toNat p1))) h10 fun n11 h12 =>
(inB p1 ((Int.toNat (IntKind.wrap .i64 ((Int.ofNat p0.len) + (Int.ofNat p2.len)))) + 1)
(cpA 6 (Sl.mk (if p0.cap = (Int.toNat p1) then (if p0.cap = 0 then p0.a else Option.map (fun x => Addr.add x (0 * 6)) p0.a) else Option.map (fun x => Addr.add x ((Int.toNat p1) * 6)) (if p0.cap = 0 then p0.a else Option.map (fun x => Addr.add x (0 * 6)) p0.a)) ((Int.toNat (IntKind.wrap .i64 ((Int.ofNat p0.len) + (Int.ofNat p2.len)))) - (Int.toNat p1)) (p0.cap - (Int.toNat p1))) p2 h12 fun n13 h14 =>
(Q (Sl.mk (if p0.cap = 0 then p0.a else Option.map (fun x => Addr.add x (0 * 6)) p0.a) (Int.toNat (IntKind.wrap .i64 ((Int.ofNat p0.len) + (Int.ofNat p2.len)))) p0.cap) h14))))))
(inB (Int.ofNat p0.len) ((Int.toNat (IntKind.wrap .i64 ((Int.ofNat p0.len) + (Int.ofNat p2.len)))) + 1)
(cpA 6 (Sl.mk (if p0.cap = (Int.toNat (Int.ofNat p0.len)) then (if p0.cap = 0 then p0.a else Option.map (fun x => Addr.add x (0 * 6)) p0.a) else Option.map (fun x => Addr.add x ((Int.toNat (Int.ofNat p0.len)) * 6)) (if p0.cap = 0 then p0.a else Option.map (fun x => Addr.add x (0 * 6)) p0.a)) ((Int.toNat (IntKind.wrap .i64 ((Int.ofNat p0.len) + (Int.ofNat p2.len)))) - (Int.toNat (Int.ofNat p0.len))) (p0.cap - (Int.toNat (Int.ofNat p0.len)))) p2 h10 fun n15 h16 =>
(inB p1 ((Int.toNat (IntKind.wrap .i64 ((Int.ofNat p0.len) + (Int.ofNat p2.len)))) + 1)
(f_slices_rotateRight_region_Region (Sl.mk (if p0.cap = (Int.toNat p1) then (if p0.cap = 0 then p0.a else Option.map (fun x => Addr.add x (0 * 6)) p0.a) else Option.map (fun x => Addr.add x ((Int.toNat p1) * 6)) (if p0.cap = 0 then p0.a else Option.map (fun x => Addr.add x (0 * 6)) p0.a)) ((Int.toNat (IntKind.wrap .i64 ((Int.ofNat p0.len) + (Int.ofNat p2.len)))) - (Int.toNat p1)) (p0.cap - (Int.toNat p1))) (Int.ofNat p2.len) (fun h17 =>
(Q (Sl.mk (if p0.cap = 0 then p0.a else Option.map (fun x => Addr.add x (0 * 6)) p0.a) (Int.toNat (IntKind.wrap .i64 ((Int.ofNat p0.len) + (Int.ofNat p2.len)))) p0.cap) h17)) h16)))))) h)))))))
def slices_Insert_region_List_region_Region_A : slices_Insert_region_List_region_Region_T := slices_Insert_region_List_region_Region_G slices_overlaps_region_Region_A slices_rotateRight_region_Region_A
def slices_Insert_region_List_region_Region_W (f : slices_Insert_region_List_region_Region_T) : ArS [.c .s, .c (.i .i64), .c .s] EnR := fun p0 p1 p2 K _Kp => f p0 p1 p2 (fun r0 => K (.slice r0.a r0.len r0.cap))

/- demesne/region.merged -/
abbrev region_merged_T := Sl → (Sl → AH → Prop) → AP
def region_merged_G (f_region_joins : region_joins_T) (p0 : Sl) (Q : Sl → AH → Prop) (h : AH) : Prop :=
(∃ I1 : Sl → Int → Nat → AH → Prop, (∃ m2, I1 Sl.nil (0 : Int) m2 h) ∧ ∀ s5 : Sl, ∀ x6 : Int, ∀ m2 h4, I1 s5 x6 m2 h4 → 
(bsel (decide (x6 < (Int.ofNat p0.len)))
(∃ R7 : Sl → AH → Prop, (∀ s34 : Sl, ∀ h35, R7 s34 h35 → 
(∃ m3, m3 < m2 ∧ I1 s34 (IntKind.wrap .i64 (x6 + (1 : Int))) m3 h35)) ∧
(onSome p0.a fun a8 =>
(inB x6 p0.len
(aI .i64 (Addr.add a8 (Int.toNat x6 * 6)) h4 fun n9 =>
(aI .i64 (Addr.add (Addr.add a8 (Int.toNat x6 * 6)) 1) h4 fun n10 =>
(aB (Addr.add (Addr.add a8 (Int.toNat x6 * 6)) 2) h4 fun b11 =>
(aB (Addr.add (Addr.add a8 (Int.toNat x6 * 6)) 3) h4 fun b12 =>
(aB (Addr.add (Addr.add a8 (Int.toNat x6 * 6)) 4) h4 fun b13 =>
(aI .i64 (Addr.add (Addr.add a8 (Int.toNat x6 * 6)) 5) h4 fun n14 =>
(bsel (decide ((Int.ofNat s5.len) > (0 : Int)))
(onSome s5.a fun a15 =>
(inB (IntKind.wrap .i64 ((Int.ofNat s5.len) - (1 : Int))) s5.len
(aI .i64 (Addr.add a15 (Int.toNat (IntKind.wrap .i64 ((Int.ofNat s5.len) - (1 : Int))) * 6)) h4 fun n16 =>
(aI .i64 (Addr.add (Addr.add a15 (Int.toNat (IntKind.wrap .i64 ((Int.ofNat s5.len) - (1 : Int))) * 6)) 1) h4 fun n17 =>
(aB (Addr.add (Addr.add a15 (Int.toNat (IntKind.wrap .i64 ((Int.ofNat s5.len) - (1 : Int))) * 6)) 2) h4 fun b18 =>
(aB (Addr.add (Addr.add a15 (Int.toNat (IntKind.wrap .i64 ((Int.ofNat s5.len) - (1 : Int))) * 6)) 3) h4 fun b19 =>
(aB (Addr.add (Addr.add a15 (Int.toNat (IntKind.wrap .i64 ((Int.ofNat s5.len) - (1 : Int))) * 6)) 4) h4 fun b20 =>
(aI .i64 (Addr.add (Addr.add a15 (Int.toNat (IntKind.wrap .i64 ((Int.ofNat s5.len) - (1 : Int))) * 6)) 5) h4 fun n21 =>
(f_region_joins n16 n17 b18 b19 b20 n21 n9 n10 b11 b12 b13 n14 (fun b22 h23 =>
(bsel b22
(onSome s5.a fun a24 =>
(inB (IntKind.wrap .i64 ((Int.ofNat s5.len) - (1 : Int))) s5.len
(aC (Addr.add (Addr.add a24 (Int.toNat (IntKind.wrap .i64 ((Int.ofNat s5.len) - (1 : Int))) * 6)) 1) (.int .i64 n10) h23 fun h25 =>
(R7 s5 h25))))
(newA h23 (.cells #[(.int .i64 n9), (.int .i64 n10), (.bool b11), (.bool b12), (.bool b13), (.int .i64 n14)] 181) fun b26 h27 =>
(apA 6 32 #[(.int .i64 (0 : Int)), (.int .i64 (0 : Int)), (.bool false), (.bool false), (.bool false), (.int .i64 (0 : Int))] 181 s5 (Sl.mk (some (Addr.mk b26 0 none)) 1 1) h27 fun s28 h29 =>
(R7 s28 h29))))) h4)))))))))
(newA h4 (.cells #[(.int .i64 n9), (.int .i64 n10), (.bool b11), (.bool b12), (.bool b13), (.int .i64 n14)] 181) fun b30 h31 =>
(apA 6 32 #[(.int .i64 (0 : Int)), (.int .i64 (0 : Int)), (.bool false), (.bool false), (.bool false), (.int .i64 (0 : Int))] 181 s5 (Sl.mk (some (Addr.mk b30 0 none)) 1 1) h31 fun s32 h33 =>
(R7 s32 h33)))))))))))))
(Q s5 h4)))
def region_merged_A : region_merged_T := region_merged_G region_joins_A
def region_merged_W (f : region_merged_T) : ArS [.c .s] EnR := fun p0 K _Kp => f p0 (fun r0 => K (.slice r0.a r0.len r0.cap))

/- demesne/region.fits -/
abbrev region_fits_T := Sl → (Sl → Int → AH → Prop) → AP
def region_fits_A (p0 : Sl) (Q : Sl → Int → AH → Prop) (h : AH) : Prop :=
(bsel (decide ((Int.ofNat p0.len) > (64 : Int)))
(Q Sl.nil (4 : Int) h)
(Q p0 (0 : Int) h))
def region_fits_W (f : region_fits_T) : ArS [.c .s] EnR := fun p0 K _Kp => f p0 (fun r0 r1 => K (.tuple #[(.slice r0.a r0.len r0.cap), (.int .i64 r1)]))

/- demesne/region.Add -/
abbrev region_Add_T := Sl → Int → Int → Bool → Bool → Bool → Int → (Sl → Int → AH → Prop) → AP
def region_Add_G (f_region_right : region_right_T) (f_region_Good : region_Good_T) (f_slices_Clone_region_List_region_Region : slices_Clone_region_List_region_Region_T) (f_slices_Insert_region_List_region_Region : slices_Insert_region_List_region_Region_T) (f_region_merged : region_merged_T) (f_region_fits : region_fits_T) (p0 : Sl) (p1 : Int) (p2 : Int) (p3 : Bool) (p4 : Bool) (p5 : Bool) (p6 : Int) (Q : Sl → Int → AH → Prop) (h : AH) : Prop :=
(f_region_right p1 p2 (fun b1 h2 =>
(bsel (!b1)
(Q Sl.nil (1 : Int) h2)
(f_region_Good p0 (fun b3 h4 =>
(bsel (!b3)
(Q Sl.nil (3 : Int) h4)
(∃ I5 : Int → Int → Nat → AH → Prop, (∃ m6, I5 (0 : Int) (0 : Int) m6 h4) ∧ ∀ x9 : Int, ∀ x10 : Int, ∀ m6 h8, I5 x9 x10 m6 h8 → 
(bsel (decide (x10 < (Int.ofNat p0.len)))
(∃ R11 : Int → AH → Prop, (∀ x19 : Int, ∀ h20, R11 x19 h20 → 
(∃ m7, m7 < m6 ∧ I5 x19 (IntKind.wrap .i64 (x10 + (1 : Int))) m7 h20)) ∧
(onSome p0.a fun a12 =>
(inB x10 p0.len
(aI .i64 (Addr.add a12 (Int.toNat x10 * 6)) h8 fun n13 =>
(aI .i64 (Addr.add (Addr.add a12 (Int.toNat x10 * 6)) 1) h8 fun n14 =>
(aB (Addr.add (Addr.add a12 (Int.toNat x10 * 6)) 2) h8 fun b15 =>
(aB (Addr.add (Addr.add a12 (Int.toNat x10 * 6)) 3) h8 fun b16 =>
(aB (Addr.add (Addr.add a12 (Int.toNat x10 * 6)) 4) h8 fun b17 =>
(aI .i64 (Addr.add (Addr.add a12 (Int.toNat x10 * 6)) 5) h8 fun n18 =>
(bsel (decide (n14 ≤ p1))
(R11 (IntKind.wrap .i64 (x10 + (1 : Int))) h8)
(bsel (decide (n13 < p2))
(Q Sl.nil (6 : Int) h8)
(R11 x9 h8))))))))))))
((f_slices_Clone_region_List_region_Region p0 (fun s21 h22 =>
(newA h22 (.cells #[(.int .i64 p1), (.int .i64 p2), (.bool p3), (.bool p4), (.bool p5), (.int .i64 p6)] 181) fun b23 h24 =>
(f_slices_Insert_region_List_region_Region s21 x9 (Sl.mk (some (Addr.mk b23 0 none)) 1 1) (fun s25 h26 =>
(f_region_merged s25 (fun s27 h28 =>
(f_region_fits s27 (fun s29 n30 h31 =>
(Q s29 n30 h31)) h28)) h26)) h24))) h8) ∧
(newA h8 (.cells #[(.int .i64 p1), (.int .i64 p2), (.bool p3), (.bool p4), (.bool p5), (.int .i64 p6)] 181) fun b32 h33 =>
(f_slices_Clone_region_List_region_Region p0 (fun s34 h35 =>
(f_slices_Insert_region_List_region_Region s34 x9 (Sl.mk (some (Addr.mk b32 0 none)) 1 1) (fun s36 h37 =>
(f_region_merged s36 (fun s38 h39 =>
(f_region_fits s38 (fun s40 n41 h42 =>
(Q s40 n41 h42)) h39)) h37)) h35)) h33))))))) h2))) h)
def region_Add_A : region_Add_T := region_Add_G region_right_A region_Good_A slices_Clone_region_List_region_Region_A slices_Insert_region_List_region_Region_A region_merged_A region_fits_A
def region_Add_W (f : region_Add_T) : ArS [.c .s, .agg [(.i .i64), (.i .i64), .b, .b, .b, (.i .i64)]] EnR := fun p0 p1 p2 p3 p4 p5 p6 K _Kp => f p0 p1 p2 p3 p4 p5 p6 (fun r0 r1 => K (.tuple #[(.slice r0.a r0.len r0.cap), (.int .i64 r1)]))

/- demesne/region.Cut: nothing is said of it -/
abbrev region_Cut_T := Sl → Int → Int → (Sl → Int → AH → Prop) → AP
def region_Cut_A : region_Cut_T := fun _ _ _ _ _ => False
def region_Cut_W (f : region_Cut_T) : ArS [.c .s, .agg [(.i .i64), (.i .i64)]] EnR := fun p0 p1 p2 K _Kp => f p0 p1 p2 (fun r0 r1 => K (.tuple #[(.slice r0.a r0.len r0.cap), (.int .i64 r1)]))

/- demesne/region.Protect: nothing is said of it -/
abbrev region_Protect_T := Sl → Int → Int → Bool → Bool → Bool → (Sl → Int → AH → Prop) → AP
def region_Protect_A : region_Protect_T := fun _ _ _ _ _ _ _ _ => False
def region_Protect_W (f : region_Protect_T) : ArS [.c .s, .agg [(.i .i64), (.i .i64)], .agg [.b, .b, .b]] EnR := fun p0 p1 p2 p3 p4 p5 K _Kp => f p0 p1 p2 p3 p4 p5 (fun r0 r1 => K (.tuple #[(.slice r0.a r0.len r0.cap), (.int .i64 r1)]))

/- (*demesne/flat.proc).busy: nothing is said of it -/
abbrev flat_proc_busy_T := Option Addr → Int → Int → (Bool → AH → Prop) → AP
def flat_proc_busy_A : flat_proc_busy_T := fun _ _ _ _ _ => False
def flat_proc_busy_W (f : flat_proc_busy_T) : ArS [.c .p, .agg [(.i .i64), (.i .i64)]] EnR := fun p0 p1 p2 K _Kp => f p0 p1 p2 (fun r0 => K (.bool r0))

/- (*demesne/flat.Model).drop: nothing is said of it -/
abbrev flat_Model_drop_T := Option Addr → Option Addr → Int → Bool → (AH → Prop) → AP
def flat_Model_drop_A : flat_Model_drop_T := fun _ _ _ _ _ _ => False
def flat_Model_drop_W (f : flat_Model_drop_T) : ArS [.c .p, .c .p, .c (.i .i64), .c .b] EnR := fun p0 p1 p2 p3 K _Kp => f p0 p1 p2 p3 (K (.tuple #[]))

/- (*demesne/flat.Model).change -/
abbrev flat_Model_change_T := Option Addr → Option Addr → Int → Int → Int → Bool → Bool → Bool → Int → Int → Int → Int → Int → Int → Int → (Int → AH → Prop) → AP
def flat_Model_change_G (f_region_Add : region_Add_T) (f_region_Cut : region_Cut_T) (f_region_Protect : region_Protect_T) (f_flat_proc_busy : flat_proc_busy_T) (f_flat_Model_drop : flat_Model_drop_T) (p0 : Option Addr) (p1 : Option Addr) (p2 : Int) (p3 : Int) (p4 : Int) (p5 : Bool) (p6 : Bool) (p7 : Bool) (_p8 : Int) (_p9 : Int) (_p10 : Int) (_p11 : Int) (_p12 : Int) (_p13 : Int) (_p14 : Int) (Q : Int → AH → Prop) (h : AH) : Prop :=
(∃ R1 : Sl → Int → AH → Prop, (∀ s17 : Sl, ∀ x18 : Int, ∀ h19, R1 s17 x18 h19 → 
(∃ R20 : AH → Prop, (∀ h23, R20 h23 → 
(∃ R24 : AH → Prop, (∀ h41, R24 h41 → 
(onSome p1 fun a42 =>
(aC (Addr.add a42 15) (.slice s17.a s17.len s17.cap) h41 fun h43 =>
(Q (0 : Int) h43)))) ∧
(bsel (p2 == (2 : Int))
(onSome p1 fun a25 =>
(aM (Addr.add a25 16) h23 fun mp26 =>
(rgA h23 mp26 fun a27 h28 =>
(∃ I29 : Nat → AH → Prop, (∃ m30, I29 m30 h28) ∧ ∀ m30 h32, I29 m30 h32 → 
(aNx h32 a27 (fun h37 =>
(R24 h37)) fun k33 v34 h36 =>
∃ n35 : Int, (k33 : Value) = (.int .i64 n35) ∧
(aEy h36 a27 fun n38 v39 =>
(bsel (decide (n38 ≥ p3))
(bsel (decide (n38 < p4))
(f_flat_Model_drop p0 p1 n38 true (fun h40 =>
(∃ m31, m31 < m30 ∧ I29 m31 h40)) h36)
(∃ m31, m31 < m30 ∧ I29 m31 h36))
(∃ m31, m31 < m30 ∧ I29 m31 h36))))))))
(R24 h23)))) ∧
(bsel (x18 != (0 : Int))
(Q x18 h19)
(bsel (p2 != (1 : Int))
(f_flat_proc_busy p1 p3 p4 (fun b21 h22 =>
(bsel b21
(Q (11 : Int) h22)
(R20 h22))) h19)
(R20 h19))))) ∧
(bsel (p2 == (1 : Int))
(onSome p1 fun a2 =>
(aS (Addr.add a2 15) h fun s3 =>
(f_region_Add s3 p3 p4 p5 p6 p7 (0 : Int) (fun s4 n5 h6 =>
(R1 s4 n5 h6)) h)))
(bsel (p2 == (2 : Int))
(onSome p1 fun a7 =>
(aS (Addr.add a7 15) h fun s8 =>
(f_region_Cut s8 p3 p4 (fun s9 n10 h11 =>
(R1 s9 n10 h11)) h)))
(onSome p1 fun a12 =>
(aS (Addr.add a12 15) h fun s13 =>
(f_region_Protect s13 p3 p4 p5 p6 p7 (fun s14 n15 h16 =>
(R1 s14 n15 h16)) h))))))
def flat_Model_change_A : flat_Model_change_T := flat_Model_change_G region_Add_A region_Cut_A region_Protect_A flat_proc_busy_A flat_Model_drop_A
def flat_Model_change_W (f : flat_Model_change_T) : ArS [.c .p, .c .p, .agg [(.i .i64), (.i .i64), (.i .i64), .b, .b, .b, (.i .u64), (.i .i64), (.i .u64), (.i .i64), (.i .i64), (.i .i64), (.i .i64)]] EnR := fun p0 p1 p2 p3 p4 p5 p6 p7 p8 p9 p10 p11 p12 p13 p14 K _Kp => f p0 p1 p2 p3 p4 p5 p6 p7 p8 p9 p10 p11 p12 p13 p14 (fun r0 => K (.int .i64 r0))

/- (*demesne/flat.proc).lendable: nothing is said of it -/
abbrev flat_proc_lendable_T := Option Addr → Int → Bool → (Int → AH → Prop) → AP
def flat_proc_lendable_A : flat_proc_lendable_T := fun _ _ _ _ _ => False
def flat_proc_lendable_W (f : flat_proc_lendable_T) : ArS [.c .p, .c (.i .i64), .c .b] EnR := fun p0 p1 p2 K _Kp => f p0 p1 p2 (fun r0 => K (.int .i64 r0))

/- (*demesne/share.Table).Offer: nothing is said of it -/
abbrev share_Table_Offer_T := Option Addr → Int → Int → Int → Bool → (Int → Int → AH → Prop) → AP
def share_Table_Offer_A : share_Table_Offer_T := fun _ _ _ _ _ _ _ => False
def share_Table_Offer_W (f : share_Table_Offer_T) : ArS [.c .p, .c (.i .i64), .c (.i .i64), .c (.i .i64), .c .b] EnR := fun p0 p1 p2 p3 p4 K _Kp => f p0 p1 p2 p3 p4 (fun r0 r1 => K (.tuple #[(.int .i64 r0), (.int .i64 r1)]))

/- (*demesne/flat.Model).accept: nothing is said of it -/
abbrev flat_Model_accept_T := Option Addr → Int → Option Addr → Int → Int → Int → Bool → Bool → Bool → Int → Int → Int → Int → Int → Int → Int → (Int → AH → Prop) → AP
def flat_Model_accept_A : flat_Model_accept_T := fun _ _ _ _ _ _ _ _ _ _ _ _ _ _ _ _ _ _ => False
def flat_Model_accept_W (f : flat_Model_accept_T) : ArS [.c .p, .c (.i .i64), .c .p, .agg [(.i .i64), (.i .i64), (.i .i64), .b, .b, .b, (.i .u64), (.i .i64), (.i .u64), (.i .i64), (.i .i64), (.i .i64), (.i .i64)]] EnR := fun p0 p1 p2 p3 p4 p5 p6 p7 p8 p9 p10 p11 p12 p13 p14 p15 K _Kp => f p0 p1 p2 p3 p4 p5 p6 p7 p8 p9 p10 p11 p12 p13 p14 p15 (fun r0 => K (.int .i64 r0))

/- (*demesne/share.Table).Leave: nothing is said of it -/
abbrev share_Table_Leave_T := Option Addr → Int → Int → (Int → Int → Int → Bool → Bool → Int → Int → AH → Prop) → AP
def share_Table_Leave_A : share_Table_Leave_T := fun _ _ _ _ _ => False
def share_Table_Leave_W (f : share_Table_Leave_T) : ArS [.c .p, .c (.i .i64), .c (.i .i64)] EnR := fun p0 p1 p2 K _Kp => f p0 p1 p2 (fun r0 r1 r2 r3 r4 r5 r6 => K (.tuple #[(.agg #[(.int .i64 r0), (.int .i64 r1), (.int .i64 r2), (.bool r3), (.bool r4), (.int .i64 r5)]), (.int .i64 r6)]))

/- (*demesne/flat.Model).back: nothing is said of it -/
abbrev flat_Model_back_T := Option Addr → Int → Int → Int → Bool → Bool → Int → (AH → Prop) → AP
def flat_Model_back_A : flat_Model_back_T := fun _ _ _ _ _ _ _ _ _ => False
def flat_Model_back_W (f : flat_Model_back_T) : ArS [.c .p, .agg [(.i .i64), (.i .i64), (.i .i64), .b, .b, (.i .i64)]] EnR := fun p0 p1 p2 p3 p4 p5 p6 K _Kp => f p0 p1 p2 p3 p4 p5 p6 (K (.tuple #[]))

/- (*demesne/share.Table).Revoke: nothing is said of it -/
abbrev share_Table_Revoke_T := Option Addr → Int → Int → (Int → Int → Int → Bool → Bool → Int → Int → AH → Prop) → AP
def share_Table_Revoke_A : share_Table_Revoke_T := fun _ _ _ _ _ => False
def share_Table_Revoke_W (f : share_Table_Revoke_T) : ArS [.c .p, .c (.i .i64), .c (.i .i64)] EnR := fun p0 p1 p2 K _Kp => f p0 p1 p2 (fun r0 r1 r2 r3 r4 r5 r6 => K (.tuple #[(.agg #[(.int .i64 r0), (.int .i64 r1), (.int .i64 r2), (.bool r3), (.bool r4), (.int .i64 r5)]), (.int .i64 r6)]))

/- demesne/trap.Handle: nothing is said of it -/
abbrev trap_Handle_T := Int → Int → Int → Int → Int → Int → Bool → Int → Int → Int → Int → Int → Int → Int → (Int → Int → Int → Int → Int → Int → Bool → Int → Int → Int → Int → Int → Int → Int → AH → Prop) → AP
def trap_Handle_A : trap_Handle_T := fun _ _ _ _ _ _ _ _ _ _ _ _ _ _ _ _ => False
def trap_Handle_W (f : trap_Handle_T) : ArS [.agg [(.i .u64), (.i .u64), (.i .u64), (.i .u64), (.i .i64), (.i .u64), .b, (.i .u64), (.i .i64), (.i .u64), (.i .u64), (.i .u64), (.i .u64)], .c (.i .u64)] EnR := fun p0 p1 p2 p3 p4 p5 p6 p7 p8 p9 p10 p11 p12 p13 K _Kp => f p0 p1 p2 p3 p4 p5 p6 p7 p8 p9 p10 p11 p12 p13 (fun r0 r1 r2 r3 r4 r5 r6 r7 r8 r9 r10 r11 r12 r13 => K (.tuple #[(.agg #[(.int .u64 r0), (.int .u64 r1), (.int .u64 r2), (.int .u64 r3), (.int .i64 r4), (.int .u64 r5), (.bool r6), (.int .u64 r7), (.int .i64 r8), (.int .u64 r9), (.int .u64 r10), (.int .u64 r11), (.int .u64 r12)]), (.int .i64 r13)]))

/- demesne/trap.Return: nothing is said of it -/
abbrev trap_Return_T := Int → Int → Int → Int → Int → Int → Bool → Int → Int → Int → Int → Int → Int → (Int → Int → Int → Int → Int → Int → Bool → Int → Int → Int → Int → Int → Int → Int → AH → Prop) → AP
def trap_Return_A : trap_Return_T := fun _ _ _ _ _ _ _ _ _ _ _ _ _ _ _ => False
def trap_Return_W (f : trap_Return_T) : ArS [.agg [(.i .u64), (.i .u64), (.i .u64), (.i .u64), (.i .i64), (.i .u64), .b, (.i .u64), (.i .i64), (.i .u64), (.i .u64), (.i .u64), (.i .u64)]] EnR := fun p0 p1 p2 p3 p4 p5 p6 p7 p8 p9 p10 p11 p12 K _Kp => f p0 p1 p2 p3 p4 p5 p6 p7 p8 p9 p10 p11 p12 (fun r0 r1 r2 r3 r4 r5 r6 r7 r8 r9 r10 r11 r12 r13 => K (.tuple #[(.agg #[(.int .u64 r0), (.int .u64 r1), (.int .u64 r2), (.int .u64 r3), (.int .i64 r4), (.int .u64 r5), (.bool r6), (.int .u64 r7), (.int .i64 r8), (.int .u64 r9), (.int .u64 r10), (.int .u64 r11), (.int .u64 r12)]), (.int .i64 r13)]))

/- demesne/trap.Reckon: nothing is said of it -/
abbrev trap_Reckon_T := Int → Int → Int → Int → Int → Int → Bool → Int → Int → Int → Int → Int → Int → Int → Int → Int → Int → (Int → Int → Int → Int → Int → Int → Bool → Int → Int → Int → Int → Int → Int → Int → AH → Prop) → AP
def trap_Reckon_A : trap_Reckon_T := fun _ _ _ _ _ _ _ _ _ _ _ _ _ _ _ _ _ _ _ => False
def trap_Reckon_W (f : trap_Reckon_T) : ArS [.agg [(.i .u64), (.i .u64), (.i .u64), (.i .u64), (.i .i64), (.i .u64), .b, (.i .u64), (.i .i64), (.i .u64), (.i .u64), (.i .u64), (.i .u64)], .c (.i .i64), .c (.i .i64), .c (.i .i64), .c (.i .i64)] EnR := fun p0 p1 p2 p3 p4 p5 p6 p7 p8 p9 p10 p11 p12 p13 p14 p15 p16 K _Kp => f p0 p1 p2 p3 p4 p5 p6 p7 p8 p9 p10 p11 p12 p13 p14 p15 p16 (fun r0 r1 r2 r3 r4 r5 r6 r7 r8 r9 r10 r11 r12 r13 => K (.tuple #[(.agg #[(.int .u64 r0), (.int .u64 r1), (.int .u64 r2), (.int .u64 r3), (.int .i64 r4), (.int .u64 r5), (.bool r6), (.int .u64 r7), (.int .i64 r8), (.int .u64 r9), (.int .u64 r10), (.int .u64 r11), (.int .u64 r12)]), (.int .i64 r13)]))

/- demesne/trap.Move: nothing is said of it -/
abbrev trap_Move_T := Int → Int → Int → Int → Int → Int → Bool → Int → Int → Int → Int → Int → Int → Int → Int → (Int → Int → Int → Int → Int → Int → Bool → Int → Int → Int → Int → Int → Int → Int → AH → Prop) → AP
def trap_Move_A : trap_Move_T := fun _ _ _ _ _ _ _ _ _ _ _ _ _ _ _ _ _ => False
def trap_Move_W (f : trap_Move_T) : ArS [.agg [(.i .u64), (.i .u64), (.i .u64), (.i .u64), (.i .i64), (.i .u64), .b, (.i .u64), (.i .i64), (.i .u64), (.i .u64), (.i .u64), (.i .u64)], .c (.i .i64), .c (.i .u64)] EnR := fun p0 p1 p2 p3 p4 p5 p6 p7 p8 p9 p10 p11 p12 p13 p14 K _Kp => f p0 p1 p2 p3 p4 p5 p6 p7 p8 p9 p10 p11 p12 p13 p14 (fun r0 r1 r2 r3 r4 r5 r6 r7 r8 r9 r10 r11 r12 r13 => K (.tuple #[(.agg #[(.int .u64 r0), (.int .u64 r1), (.int .u64 r2), (.int .u64 r3), (.int .i64 r4), (.int .u64 r5), (.bool r6), (.int .u64 r7), (.int .i64 r8), (.int .u64 r9), (.int .u64 r10), (.int .u64 r11), (.int .u64 r12)]), (.int .i64 r13)]))

/- (*demesne/sched.Queue).Yield: nothing is said of it -/
abbrev sched_Queue_Yield_T := Option Addr → (AH → Prop) → AP
def sched_Queue_Yield_A : sched_Queue_Yield_T := fun _ _ _ => False
def sched_Queue_Yield_W (f : sched_Queue_Yield_T) : ArS [.c .p] EnR := fun p0 K _Kp => f p0 (K (.tuple #[]))

/- (*demesne/flat.Model).end: nothing is said of it -/
abbrev flat_Model_end_T := Option Addr → Int → (AH → Prop) → AP
def flat_Model_end_A : flat_Model_end_T := fun _ _ _ _ => False
def flat_Model_end_W (f : flat_Model_end_T) : ArS [.c .p, .c (.i .i64)] EnR := fun p0 p1 K _Kp => f p0 p1 (K (.tuple #[]))

/- (*demesne/flat.Model).ask -/
abbrev flat_Model_ask_T := Option Addr → Int → Option Addr → Int → Int → Int → Bool → Bool → Bool → Int → Int → Int → Int → Int → Int → Int → (Int → Int → AH → Prop) → AP
def flat_Model_ask_G (f_flat_Model_change : flat_Model_change_T) (f_flat_proc_lendable : flat_proc_lendable_T) (f_share_Table_Offer : share_Table_Offer_T) (f_flat_Model_accept : flat_Model_accept_T) (f_share_Table_Leave : share_Table_Leave_T) (f_flat_Model_back : flat_Model_back_T) (f_share_Table_Revoke : share_Table_Revoke_T) (f_trap_Handle : trap_Handle_T) (f_trap_Return : trap_Return_T) (f_trap_Reckon : trap_Reckon_T) (f_trap_Move : trap_Move_T) (f_flat_Model_start : flat_Model_start_T) (f_sched_Queue_Yield : sched_Queue_Yield_T) (f_flat_Model_end : flat_Model_end_T) (p0 : Option Addr) (p1 : Int) (p2 : Option Addr) (p3 : Int) (p4 : Int) (p5 : Int) (p6 : Bool) (p7 : Bool) (p8 : Bool) (p9 : Int) (p10 : Int) (p11 : Int) (p12 : Int) (p13 : Int) (p14 : Int) (p15 : Int) (Q : Int → Int → AH → Prop) (h : AH) : Prop :=
(∃ R1 : Int → Int → AH → Prop, (∀ x226 : Int, ∀ x227 : Int, ∀ h228, R1 x226 x227 h228 → 
(Q x226 x227 h228)) ∧
(∃ R2 : Bool → AH → Prop, (∀ b3 : Bool, ∀ h4, R2 b3 h4 → 
(bsel b3
(f_flat_Model_change p0 p2 p3 p4 p5 p6 p7 p8 p9 p10 p11 p12 p13 p14 p15 (fun n5 h6 =>
(R1 (0 : Int) n5 h6)) h4)
(bsel (p3 == (6 : Int))
(∃ R7 : Int → AH → Prop, (∀ x12 : Int, ∀ h13, R7 x12 h13 → 
(f_flat_proc_lendable p2 p4 p6 (fun n14 h15 =>
(bsel (n14 == (0 : Int))
(onSome p0 fun a16 =>
(f_share_Table_Offer (some (Addr.add a16 2)) p1 p4 p12 p6 (fun n17 n18 h19 =>
(R1 (IntKind.wrap .u64 n17) n18 h19)) h15))
(R1 x12 n14 h15))) h13)) ∧
(onSome p0 fun a8 =>
(aM (Addr.add a8 3) h4 fun mp9 =>
(aLk h4 mp9 .i64 p12 fun o10 =>
(∃ pt11 : Option Addr, ((o10.getD (.pointer none)) : Value) = (.pointer pt11) ∧
(bsel pt11.isNone
(Q (0 : Int) (5 : Int) h4)
(bsel (p12 == p1)
(Q (0 : Int) (5 : Int) h4)
(R7 (0 : Int) h4))))))))
(bsel (p3 == (7 : Int))
(f_flat_Model_accept p0 p1 p2 p3 p4 p5 p6 p7 p8 p9 p10 p11 p12 p13 p14 p15 (fun n20 h21 =>
(R1 (0 : Int) n20 h21)) h4)
(∃ R22 : Bool → AH → Prop, (∀ b23 : Bool, ∀ h24, R22 b23 h24 → 
(bsel b23
(onSome p0 fun a25 =>
(bsel (p3 == (9 : Int))
(onSome p0 fun a26 =>
(f_share_Table_Leave (some (Addr.add a26 2)) p12 p1 (fun n27 n28 n29 b30 b31 n32 n33 h34 =>
(bsel (n33 == (0 : Int))
(f_flat_Model_back p0 n27 n28 n29 b30 b31 n32 (fun h35 =>
(R1 (0 : Int) n33 h35)) h34)
(R1 (0 : Int) n33 h34))) h24))
(f_share_Table_Revoke (some (Addr.add a25 2)) p12 p1 (fun n36 n37 n38 b39 b40 n41 n42 h43 =>
(bsel (n42 == (0 : Int))
(f_flat_Model_back p0 n36 n37 n38 b39 b40 n41 (fun h44 =>
(R1 (0 : Int) n42 h44)) h43)
(R1 (0 : Int) n42 h43))) h24)))
(bsel (p3 == (10 : Int))
(onSome p2 fun a45 =>
(aI .u64 (Addr.add a45 2) h24 fun n46 =>
(aI .u64 (Addr.add (Addr.add a45 2) 1) h24 fun n47 =>
(aI .u64 (Addr.add (Addr.add a45 2) 2) h24 fun n48 =>
(aI .u64 (Addr.add (Addr.add a45 2) 3) h24 fun n49 =>
(aI .i64 (Addr.add (Addr.add a45 2) 4) h24 fun n50 =>
(aI .u64 (Addr.add (Addr.add a45 2) 5) h24 fun n51 =>
(aB (Addr.add (Addr.add a45 2) 6) h24 fun b52 =>
(aI .u64 (Addr.add (Addr.add a45 2) 7) h24 fun n53 =>
(aI .i64 (Addr.add (Addr.add a45 2) 8) h24 fun n54 =>
(aI .u64 (Addr.add (Addr.add a45 2) 9) h24 fun n55 =>
(aI .u64 (Addr.add (Addr.add a45 2) 10) h24 fun n56 =>
(aI .u64 (Addr.add (Addr.add a45 2) 11) h24 fun n57 =>
(aI .u64 (Addr.add (Addr.add a45 2) 12) h24 fun n58 =>
(f_trap_Handle n46 n47 n48 n49 n50 n51 b52 n53 n54 n55 n56 n57 n58 p9 (fun n59 n60 n61 n62 n63 n64 b65 n66 n67 n68 n69 n70 n71 n72 h73 =>
(onSome p2 fun a74 =>
(aC (Addr.add a74 2) (.int .u64 n59) h73 fun h75 =>
(aC (Addr.add (Addr.add a74 2) 1) (.int .u64 n60) h75 fun h76 =>
(aC (Addr.add (Addr.add a74 2) 2) (.int .u64 n61) h76 fun h77 =>
(aC (Addr.add (Addr.add a74 2) 3) (.int .u64 n62) h77 fun h78 =>
(aC (Addr.add (Addr.add a74 2) 4) (.int .i64 n63) h78 fun h79 =>
(aC (Addr.add (Addr.add a74 2) 5) (.int .u64 n64) h79 fun h80 =>
(aC (Addr.add (Addr.add a74 2) 6) (.bool b65) h80 fun h81 =>
(aC (Addr.add (Addr.add a74 2) 7) (.int .u64 n66) h81 fun h82 =>
(aC (Addr.add (Addr.add a74 2) 8) (.int .i64 n67) h82 fun h83 =>
(aC (Addr.add (Addr.add a74 2) 9) (.int .u64 n68) h83 fun h84 =>
(aC (Addr.add (Addr.add a74 2) 10) (.int .u64 n69) h84 fun h85 =>
(aC (Addr.add (Addr.add a74 2) 11) (.int .u64 n70) h85 fun h86 =>
(aC (Addr.add (Addr.add a74 2) 12) (.int .u64 n71) h86 fun h87 =>
(R1 (0 : Int) n72 h87)))))))))))))))) h24)))))))))))))))
(bsel (p3 == (11 : Int))
(onSome p2 fun a88 =>
(aI .u64 (Addr.add a88 2) h24 fun n89 =>
(aI .u64 (Addr.add (Addr.add a88 2) 1) h24 fun n90 =>
(aI .u64 (Addr.add (Addr.add a88 2) 2) h24 fun n91 =>
(aI .u64 (Addr.add (Addr.add a88 2) 3) h24 fun n92 =>
(aI .i64 (Addr.add (Addr.add a88 2) 4) h24 fun n93 =>
(aI .u64 (Addr.add (Addr.add a88 2) 5) h24 fun n94 =>
(aB (Addr.add (Addr.add a88 2) 6) h24 fun b95 =>
(aI .u64 (Addr.add (Addr.add a88 2) 7) h24 fun n96 =>
(aI .i64 (Addr.add (Addr.add a88 2) 8) h24 fun n97 =>
(aI .u64 (Addr.add (Addr.add a88 2) 9) h24 fun n98 =>
(aI .u64 (Addr.add (Addr.add a88 2) 10) h24 fun n99 =>
(aI .u64 (Addr.add (Addr.add a88 2) 11) h24 fun n100 =>
(aI .u64 (Addr.add (Addr.add a88 2) 12) h24 fun n101 =>
(f_trap_Return n89 n90 n91 n92 n93 n94 b95 n96 n97 n98 n99 n100 n101 (fun n102 n103 n104 n105 n106 n107 b108 n109 n110 n111 n112 n113 n114 n115 h116 =>
(onSome p2 fun a117 =>
(aC (Addr.add a117 2) (.int .u64 n102) h116 fun h118 =>
(aC (Addr.add (Addr.add a117 2) 1) (.int .u64 n103) h118 fun h119 =>
(aC (Addr.add (Addr.add a117 2) 2) (.int .u64 n104) h119 fun h120 =>
(aC (Addr.add (Addr.add a117 2) 3) (.int .u64 n105) h120 fun h121 =>
(aC (Addr.add (Addr.add a117 2) 4) (.int .i64 n106) h121 fun h122 =>
(aC (Addr.add (Addr.add a117 2) 5) (.int .u64 n107) h122 fun h123 =>
(aC (Addr.add (Addr.add a117 2) 6) (.bool b108) h123 fun h124 =>
(aC (Addr.add (Addr.add a117 2) 7) (.int .u64 n109) h124 fun h125 =>
(aC (Addr.add (Addr.add a117 2) 8) (.int .i64 n110) h125 fun h126 =>
(aC (Addr.add (Addr.add a117 2) 9) (.int .u64 n111) h126 fun h127 =>
(aC (Addr.add (Addr.add a117 2) 10) (.int .u64 n112) h127 fun h128 =>
(aC (Addr.add (Addr.add a117 2) 11) (.int .u64 n113) h128 fun h129 =>
(aC (Addr.add (Addr.add a117 2) 12) (.int .u64 n114) h129 fun h130 =>
(R1 (0 : Int) n115 h130)))))))))))))))) h24)))))))))))))))
(bsel (p3 == (15 : Int))
(onSome p2 fun a131 =>
(aI .u64 (Addr.add a131 2) h24 fun n132 =>
(aI .u64 (Addr.add (Addr.add a131 2) 1) h24 fun n133 =>
(aI .u64 (Addr.add (Addr.add a131 2) 2) h24 fun n134 =>
(aI .u64 (Addr.add (Addr.add a131 2) 3) h24 fun n135 =>
(aI .i64 (Addr.add (Addr.add a131 2) 4) h24 fun n136 =>
(aI .u64 (Addr.add (Addr.add a131 2) 5) h24 fun n137 =>
(aB (Addr.add (Addr.add a131 2) 6) h24 fun b138 =>
(aI .u64 (Addr.add (Addr.add a131 2) 7) h24 fun n139 =>
(aI .i64 (Addr.add (Addr.add a131 2) 8) h24 fun n140 =>
(aI .u64 (Addr.add (Addr.add a131 2) 9) h24 fun n141 =>
(aI .u64 (Addr.add (Addr.add a131 2) 10) h24 fun n142 =>
(aI .u64 (Addr.add (Addr.add a131 2) 11) h24 fun n143 =>
(aI .u64 (Addr.add (Addr.add a131 2) 12) h24 fun n144 =>
(f_trap_Reckon n132 n133 n134 n135 n136 n137 b138 n139 n140 n141 n142 n143 n144 p12 p13 p14 p15 (fun n145 n146 n147 n148 n149 n150 b151 n152 n153 n154 n155 n156 n157 n158 h159 =>
(onSome p2 fun a160 =>
(aC (Addr.add a160 2) (.int .u64 n145) h159 fun h161 =>
(aC (Addr.add (Addr.add a160 2) 1) (.int .u64 n146) h161 fun h162 =>
(aC (Addr.add (Addr.add a160 2) 2) (.int .u64 n147) h162 fun h163 =>
(aC (Addr.add (Addr.add a160 2) 3) (.int .u64 n148) h163 fun h164 =>
(aC (Addr.add (Addr.add a160 2) 4) (.int .i64 n149) h164 fun h165 =>
(aC (Addr.add (Addr.add a160 2) 5) (.int .u64 n150) h165 fun h166 =>
(aC (Addr.add (Addr.add a160 2) 6) (.bool b151) h166 fun h167 =>
(aC (Addr.add (Addr.add a160 2) 7) (.int .u64 n152) h167 fun h168 =>
(aC (Addr.add (Addr.add a160 2) 8) (.int .i64 n153) h168 fun h169 =>
(aC (Addr.add (Addr.add a160 2) 9) (.int .u64 n154) h169 fun h170 =>
(aC (Addr.add (Addr.add a160 2) 10) (.int .u64 n155) h170 fun h171 =>
(aC (Addr.add (Addr.add a160 2) 11) (.int .u64 n156) h171 fun h172 =>
(aC (Addr.add (Addr.add a160 2) 12) (.int .u64 n157) h172 fun h173 =>
(R1 (0 : Int) n158 h173)))))))))))))))) h24)))))))))))))))
(bsel (p3 == (16 : Int))
(onSome p2 fun a174 =>
(aI .u64 (Addr.add a174 2) h24 fun n175 =>
(aI .u64 (Addr.add (Addr.add a174 2) 1) h24 fun n176 =>
(aI .u64 (Addr.add (Addr.add a174 2) 2) h24 fun n177 =>
(aI .u64 (Addr.add (Addr.add a174 2) 3) h24 fun n178 =>
(aI .i64 (Addr.add (Addr.add a174 2) 4) h24 fun n179 =>
(aI .u64 (Addr.add (Addr.add a174 2) 5) h24 fun n180 =>
(aB (Addr.add (Addr.add a174 2) 6) h24 fun b181 =>
(aI .u64 (Addr.add (Addr.add a174 2) 7) h24 fun n182 =>
(aI .i64 (Addr.add (Addr.add a174 2) 8) h24 fun n183 =>
(aI .u64 (Addr.add (Addr.add a174 2) 9) h24 fun n184 =>
(aI .u64 (Addr.add (Addr.add a174 2) 10) h24 fun n185 =>
(aI .u64 (Addr.add (Addr.add a174 2) 11) h24 fun n186 =>
(aI .u64 (Addr.add (Addr.add a174 2) 12) h24 fun n187 =>
(f_trap_Move n175 n176 n177 n178 n179 n180 b181 n182 n183 n184 n185 n186 n187 p12 p11 (fun n188 n189 n190 n191 n192 n193 b194 n195 n196 n197 n198 n199 n200 n201 h202 =>
(onSome p2 fun a203 =>
(aC (Addr.add a203 2) (.int .u64 n188) h202 fun h204 =>
(aC (Addr.add (Addr.add a203 2) 1) (.int .u64 n189) h204 fun h205 =>
(aC (Addr.add (Addr.add a203 2) 2) (.int .u64 n190) h205 fun h206 =>
(aC (Addr.add (Addr.add a203 2) 3) (.int .u64 n191) h206 fun h207 =>
(aC (Addr.add (Addr.add a203 2) 4) (.int .i64 n192) h207 fun h208 =>
(aC (Addr.add (Addr.add a203 2) 5) (.int .u64 n193) h208 fun h209 =>
(aC (Addr.add (Addr.add a203 2) 6) (.bool b194) h209 fun h210 =>
(aC (Addr.add (Addr.add a203 2) 7) (.int .u64 n195) h210 fun h211 =>
(aC (Addr.add (Addr.add a203 2) 8) (.int .i64 n196) h211 fun h212 =>
(aC (Addr.add (Addr.add a203 2) 9) (.int .u64 n197) h212 fun h213 =>
(aC (Addr.add (Addr.add a203 2) 10) (.int .u64 n198) h213 fun h214 =>
(aC (Addr.add (Addr.add a203 2) 11) (.int .u64 n199) h214 fun h215 =>
(aC (Addr.add (Addr.add a203 2) 12) (.int .u64 n200) h215 fun h216 =>
(R1 (0 : Int) n201 h216)))))))))))))))) h24)))))))))))))))
(bsel (p3 == (12 : Int))
(onSome p2 fun a217 =>
(aI .i64 a217 h24 fun n218 =>
(f_flat_Model_start p0 p1 n218 p12 (fun n219 n220 h221 =>
(R1 (IntKind.wrap .u64 n219) n220 h221)) h24)))
(bsel (p3 == (14 : Int))
(onSome p0 fun a222 =>
(aP (Addr.add a222 1) h24 fun pt223 =>
(f_sched_Queue_Yield pt223 (fun h224 =>
(R1 (0 : Int) (0 : Int) h224)) h24)))
(bsel (p3 == (13 : Int))
(bsel (p1 == (0 : Int))
(Q (0 : Int) (10 : Int) h24)
(f_flat_Model_end p0 p1 (fun h225 =>
(R1 (0 : Int) (0 : Int) h225)) h24))
(R1 (0 : Int) (0 : Int) h24)))))))))) ∧
(bsel (p3 == (8 : Int))
(R22 (p3 == (8 : Int)) h4)
(R22 (p3 == (9 : Int)) h4))))))) ∧
(bsel (p3 == (1 : Int))
(R2 (p3 == (1 : Int)) h)
(bsel (p3 == (2 : Int))
(R2 (p3 == (2 : Int)) h)
(R2 (p3 == (3 : Int)) h)))))
def flat_Model_ask_A : flat_Model_ask_T := flat_Model_ask_G flat_Model_change_A flat_proc_lendable_A share_Table_Offer_A flat_Model_accept_A share_Table_Leave_A flat_Model_back_A share_Table_Revoke_A trap_Handle_A trap_Return_A trap_Reckon_A trap_Move_A flat_Model_start_A sched_Queue_Yield_A flat_Model_end_A
def flat_Model_ask_W (f : flat_Model_ask_T) : ArS [.c .p, .c (.i .i64), .c .p, .agg [(.i .i64), (.i .i64), (.i .i64), .b, .b, .b, (.i .u64), (.i .i64), (.i .u64), (.i .i64), (.i .i64), (.i .i64), (.i .i64)]] EnR := fun p0 p1 p2 p3 p4 p5 p6 p7 p8 p9 p10 p11 p12 p13 p14 p15 K _Kp => f p0 p1 p2 p3 p4 p5 p6 p7 p8 p9 p10 p11 p12 p13 p14 p15 (fun r0 r1 => K (.tuple #[(.int .u64 r0), (.int .i64 r1)]))

/- (*demesne/flat.Model).Do -/
abbrev flat_Model_Do_T := Option Addr → Int → Int → Int → Int → Int → Int → (Int → Int → Int → Int → Int → Bool → AH → Prop) → AP
def flat_Model_Do_G (f_sched_Queue_Now : sched_Queue_Now_T) (f_call_Read : call_Read_T) (f_flat_Model_memory : flat_Model_memory_T) (f_flat_Model_ask : flat_Model_ask_T) (p0 : Option Addr) (p1 : Int) (p2 : Int) (p3 : Int) (p4 : Int) (p5 : Int) (p6 : Int) (Q : Int → Int → Int → Int → Int → Bool → AH → Prop) (h : AH) : Prop :=
(onSome p0 fun a1 =>
(aP (Addr.add a1 1) h fun pt2 =>
(bsel pt2.isNone
(Q (0 : Int) (0 : Int) (12 : Int) (0 : Int) (0 : Int) (false : Bool) h)
(onSome p0 fun a3 =>
(aP (Addr.add a3 1) h fun pt4 =>
(f_sched_Queue_Now pt4 (fun n5 b6 h7 =>
(newA h7 (.cells #[(.int .i64 (0 : Int)), (.int .u64 (0 : Int)), (.int .i64 (0 : Int)), (.int .u64 (0 : Int)), (.int .i64 (0 : Int)), (.bool false)] 32) fun b8 h9 =>
(aC (Addr.mk b8 0 none) (.int .i64 n5) h9 fun h10 =>
(aC (Addr.add (Addr.mk b8 0 none) 1) (.int .u64 (0 : Int)) h10 fun h11 =>
(aC (Addr.add (Addr.mk b8 0 none) 2) (.int .i64 (0 : Int)) h11 fun h12 =>
(aC (Addr.add (Addr.mk b8 0 none) 3) (.int .u64 (0 : Int)) h12 fun h13 =>
(aC (Addr.add (Addr.mk b8 0 none) 4) (.int .i64 (0 : Int)) h13 fun h14 =>
(aC (Addr.add (Addr.mk b8 0 none) 5) (.bool false) h14 fun h15 =>
(f_call_Read p1 p2 p3 p4 p5 p6 (fun n16 n17 n18 b19 b20 b21 n22 n23 n24 n25 n26 n27 n28 n29 h30 =>
(aC (Addr.add (Addr.mk b8 0 none) 2) (.int .i64 n29) h30 fun h31 =>
(bsel (n29 != (0 : Int))
(aI .i64 (Addr.mk b8 0 none) h31 fun n32 =>
(aI .u64 (Addr.add (Addr.mk b8 0 none) 1) h31 fun n33 =>
(aI .i64 (Addr.add (Addr.mk b8 0 none) 2) h31 fun n34 =>
(aI .u64 (Addr.add (Addr.mk b8 0 none) 3) h31 fun n35 =>
(aI .i64 (Addr.add (Addr.mk b8 0 none) 4) h31 fun n36 =>
(aB (Addr.add (Addr.mk b8 0 none) 5) h31 fun b37 =>
(Q n32 n33 n34 n35 n36 b37 h31)))))))
(bsel (n16 == (4 : Int))
(onSome p0 fun a38 =>
(aM (Addr.add a38 3) h31 fun mp39 =>
(aLk h31 mp39 .i64 n5 fun o40 =>
(∃ pt41 : Option Addr, ((o40.getD (.pointer none)) : Value) = (.pointer pt41) ∧
(f_flat_Model_memory p0 pt41 n16 n17 n18 b19 b20 b21 n22 n23 n24 n25 n26 n27 n28 (some (Addr.mk b8 0 none)) (fun h42 =>
(aI .i64 (Addr.mk b8 0 none) h42 fun n43 =>
(aI .u64 (Addr.add (Addr.mk b8 0 none) 1) h42 fun n44 =>
(aI .i64 (Addr.add (Addr.mk b8 0 none) 2) h42 fun n45 =>
(aI .u64 (Addr.add (Addr.mk b8 0 none) 3) h42 fun n46 =>
(aI .i64 (Addr.add (Addr.mk b8 0 none) 4) h42 fun n47 =>
(aB (Addr.add (Addr.mk b8 0 none) 5) h42 fun b48 =>
(Q n43 n44 n45 n46 n47 b48 h42)))))))) h31)))))
(bsel (n16 == (5 : Int))
(onSome p0 fun a49 =>
(aM (Addr.add a49 3) h31 fun mp50 =>
(aLk h31 mp50 .i64 n5 fun o51 =>
(∃ pt52 : Option Addr, ((o51.getD (.pointer none)) : Value) = (.pointer pt52) ∧
(f_flat_Model_memory p0 pt52 n16 n17 n18 b19 b20 b21 n22 n23 n24 n25 n26 n27 n28 (some (Addr.mk b8 0 none)) (fun h53 =>
(aI .i64 (Addr.mk b8 0 none) h53 fun n54 =>
(aI .u64 (Addr.add (Addr.mk b8 0 none) 1) h53 fun n55 =>
(aI .i64 (Addr.add (Addr.mk b8 0 none) 2) h53 fun n56 =>
(aI .u64 (Addr.add (Addr.mk b8 0 none) 3) h53 fun n57 =>
(aI .i64 (Addr.add (Addr.mk b8 0 none) 4) h53 fun n58 =>
(aB (Addr.add (Addr.mk b8 0 none) 5) h53 fun b59 =>
(Q n54 n55 n56 n57 n58 b59 h53)))))))) h31)))))
(onSome p0 fun a60 =>
(aM (Addr.add a60 3) h31 fun mp61 =>
(aLk h31 mp61 .i64 n5 fun o62 =>
(∃ pt63 : Option Addr, ((o62.getD (.pointer none)) : Value) = (.pointer pt63) ∧
(f_flat_Model_ask p0 n5 pt63 n16 n17 n18 b19 b20 b21 n22 n23 n24 n25 n26 n27 n28 (fun n64 n65 h66 =>
(aC (Addr.add (Addr.mk b8 0 none) 1) (.int .u64 n64) h66 fun h67 =>
(aC (Addr.add (Addr.mk b8 0 none) 2) (.int .i64 n65) h67 fun h68 =>
(aI .i64 (Addr.mk b8 0 none) h68 fun n69 =>
(aI .u64 (Addr.add (Addr.mk b8 0 none) 1) h68 fun n70 =>
(aI .i64 (Addr.add (Addr.mk b8 0 none) 2) h68 fun n71 =>
(aI .u64 (Addr.add (Addr.mk b8 0 none) 3) h68 fun n72 =>
(aI .i64 (Addr.add (Addr.mk b8 0 none) 4) h68 fun n73 =>
(aB (Addr.add (Addr.mk b8 0 none) 5) h68 fun b74 =>
(Q n69 n70 n71 n72 n73 b74 h68)))))))))) h31)))))))))) h15))))))))) h))))))
def flat_Model_Do_A : flat_Model_Do_T := flat_Model_Do_G sched_Queue_Now_A call_Read_A flat_Model_memory_A flat_Model_ask_A
def flat_Model_Do_W (f : flat_Model_Do_T) : ArS [.c .p, .agg [(.i .u64), (.i .u64), (.i .u64), (.i .u64), (.i .u64), (.i .u64)]] EnR := fun p0 p1 p2 p3 p4 p5 p6 K _Kp => f p0 p1 p2 p3 p4 p5 p6 (fun r0 r1 r2 r3 r4 r5 => K (.agg #[(.int .i64 r0), (.int .u64 r1), (.int .i64 r2), (.int .u64 r3), (.int .i64 r4), (.bool r5)]))

/- (*demesne/quota.Tree).Get -/
abbrev quota_Tree_Get_T := Option Addr → Int → (Int → Int → Int → Int → Bool → Bool → AH → Prop) → AP
def quota_Tree_Get_G (f_quota_Tree_at : quota_Tree_at_T) (p0 : Option Addr) (p1 : Int) (Q : Int → Int → Int → Int → Bool → Bool → AH → Prop) (h : AH) : Prop :=
(f_quota_Tree_at p0 p1 (fun pt1 b2 h3 =>
(bsel b2
(onSome pt1 fun a4 =>
(aI .i64 a4 h3 fun n5 =>
(aI .i64 (Addr.add a4 1) h3 fun n6 =>
(aI .i64 (Addr.add a4 2) h3 fun n7 =>
(aI .i64 (Addr.add a4 3) h3 fun n8 =>
(aB (Addr.add a4 4) h3 fun b9 =>
(Q n5 n6 n7 n8 b9 true h3)))))))
(Q (0 : Int) (0 : Int) (0 : Int) (0 : Int) (false : Bool) false h3))) h)
def quota_Tree_Get_A : quota_Tree_Get_T := quota_Tree_Get_G quota_Tree_at_A
def quota_Tree_Get_W (f : quota_Tree_Get_T) : ArS [.c .p, .c (.i .i64)] EnR := fun p0 p1 K _Kp => f p0 p1 (fun r0 r1 r2 r3 r4 r5 => K (.tuple #[(.agg #[(.int .i64 r0), (.int .i64 r1), (.int .i64 r2), (.int .i64 r3), (.bool r4)]), (.bool r5)]))

/- (*demesne/flat.Model).Used -/
abbrev flat_Model_Used_T := Option Addr → Int → (Int → AH → Prop) → AP
def flat_Model_Used_G (f_quota_Tree_Get : quota_Tree_Get_T) (p0 : Option Addr) (p1 : Int) (Q : Int → AH → Prop) (h : AH) : Prop :=
(onSome p0 fun a1 =>
(aM (Addr.add a1 3) h fun mp2 =>
(aLk h mp2 .i64 p1 fun o3 =>
(∃ pt4 : Option Addr, ((o3.getD (.pointer none)) : Value) = (.pointer pt4) ∧
(bsel pt4.isNone
(Q (-1 : Int) h)
(onSome p0 fun a5 =>
(onSome pt4 fun a6 =>
(aP a5 h fun pt7 =>
(aI .i64 a6 h fun n8 =>
(f_quota_Tree_Get pt7 n8 (fun n9 n10 n11 n12 b13 b14 h15 =>
(Q n11 h15)) h))))))))))
def flat_Model_Used_A : flat_Model_Used_T := flat_Model_Used_G quota_Tree_Get_A
def flat_Model_Used_W (f : flat_Model_Used_T) : ArS [.c .p, .c (.i .i64)] EnR := fun p0 p1 K _Kp => f p0 p1 (fun r0 => K (.int .i64 r0))

/- demesne/demesnelaw19.awake -/
abbrev demesnelaw19_awake_T := (Bool → AH → Prop) → AP
def demesnelaw19_awake_G (f_flat_Boot : flat_Boot_T) (f_flat_Model_Do : flat_Model_Do_T) (f_flat_Model_Used : flat_Model_Used_T) (Q : Bool → AH → Prop) (h : AH) : Prop :=
(f_flat_Boot (59 : Int) (2 : Int) (2 : Int) (fun pt1 n2 h3 =>
(∃ R4 : AH → Prop, (∀ h5, R4 h5 → 
(f_flat_Model_Do pt1 (1 : Int) (0 : Int) (4 : Int) (1 : Int) (0 : Int) (0 : Int) (fun n6 n7 n8 n9 n10 b11 h12 =>
(f_flat_Model_Do pt1 (5 : Int) (8 : Int) (8 : Int) (5 : Int) (0 : Int) (0 : Int) (fun n13 n14 n15 n16 n17 b18 h19 =>
(f_flat_Model_Do pt1 (4 : Int) (8 : Int) (8 : Int) (0 : Int) (0 : Int) (0 : Int) (fun n20 n21 n22 n23 n24 b25 h26 =>
(bsel (n8 == (0 : Int))
(bsel (n15 == (0 : Int))
(bsel (n21 == (5 : Int))
(f_flat_Model_Used pt1 (0 : Int) (fun n27 h28 =>
(Q (n27 == (5 : Int)) h28)) h26)
(Q false h26))
(Q false h26))
(Q false h26))) h19)) h12)) h5)) ∧
(bsel (n2 != (0 : Int))
(Q false h3)
(bsel pt1.isNone
(Q false h3)
(R4 h3))))) h)
def demesnelaw19_awake_A : demesnelaw19_awake_T := demesnelaw19_awake_G flat_Boot_A flat_Model_Do_A flat_Model_Used_A
def demesnelaw19_awake_W (f : demesnelaw19_awake_T) : ArS [] EnR := fun  K _Kp => f  (fun r0 => K (.bool r0))

/- demesne/demesnelaw19.FlatCosts -/
abbrev demesnelaw19_FlatCosts_T := Sl → (Bool → AH → Prop) → AP
def demesnelaw19_FlatCosts_G (f_flat_Boot : flat_Boot_T) (f_demesnelaw19_awake : demesnelaw19_awake_T) (f_flat_Model_Used : flat_Model_Used_T) (f_flat_Model_Do : flat_Model_Do_T) (p0 : Sl) (Q : Bool → AH → Prop) (h : AH) : Prop :=
(f_flat_Boot (1000 : Int) (2 : Int) (1 : Int) (fun pt1 n2 h3 =>
(∃ R4 : AH → Prop, (∀ h5, R4 h5 → 
(newA h5 (.cells #[] 3) fun b6 h7 =>
(∃ I8 : Sl → Int → Nat → AH → Prop, (∃ m9, I8 (Sl.mk (some (Addr.mk b6 0 none)) 0 0) (0 : Int) m9 h7) ∧ ∀ s12 : Sl, ∀ x13 : Int, ∀ m9 h11, I8 s12 x13 m9 h11 → 
(∃ R14 : AH → Prop, (∀ h19, R14 h19 → 
(∃ R20 : Sl → AH → Prop, (∀ s86 : Sl, ∀ h87, R20 s86 h87 → 
(∃ m10, m10 < m9 ∧ I8 s86 (IntKind.wrap .i64 (x13 + (1 : Int))) m10 h87)) ∧
(onSome p0.a fun a21 =>
(inB x13 p0.len
(aI .i64 (Addr.add a21 (Int.toNat x13 * 1)) h19 fun n22 =>
(∃ R23 : AH → Prop, (∀ h24, R23 h24 → 
(newA h24 (.cells #[(.int .i64 (9 : Int)), (.int .i64 (18 : Int)), (.int .i64 (27 : Int))] 3) fun b25 h26 =>
(∃ I27 : Int → Bool → Int → Nat → AH → Prop, (∃ m28, I27 (4 : Int) false (0 : Int) m28 h26) ∧ ∀ x31 : Int, ∀ b32 : Bool, ∀ x33 : Int, ∀ m28 h30, I27 x31 b32 x33 m28 h30 → 
(bsel (decide (x33 < (3 : Int)))
(∃ R34 : Int → Bool → AH → Prop, (∀ x49 : Int, ∀ b50 : Bool, ∀ h51, R34 x49 b50 h51 → 
(∃ m29, m29 < m28 ∧ I27 x49 b50 (IntKind.wrap .i64 (x33 + (1 : Int))) m29 h51)) ∧
(inB x33 3
(aI .i64 (Addr.add (Addr.mk b25 0 none) (Int.toNat x33 * 1)) h30 fun n35 =>
(∃ I36 : Bool → Bool → Int → Nat → AH → Prop, (∃ m37, I36 b32 false (0 : Int) m37 h30) ∧ ∀ b40 : Bool, ∀ b41 : Bool, ∀ x42 : Int, ∀ m37 h39, I36 b40 b41 x42 m37 h39 → 
(bsel (decide (x42 < (Int.ofNat s12.len)))
(∃ R43 : Bool → Bool → AH → Prop, (∀ b46 : Bool, ∀ b47 : Bool, ∀ h48, R43 b46 b47 h48 → 
(∃ m38, m38 < m37 ∧ I36 b46 b47 (IntKind.wrap .i64 (x42 + (1 : Int))) m38 h48)) ∧
(onSome s12.a fun a44 =>
(inB x42 s12.len
(aI .i64 (Addr.add a44 (Int.toNat x42 * 1)) h39 fun n45 =>
(bsel b41
(bsel b40
(R43 true true h39)
(R43 (n22 == n45) true h39))
(bsel (decide (n35 < 0)) False
(bsel (decide (n35 < 0)) False
(bsel b40
(R43 true ((Int.fdiv n22 (2 ^ (min (Int.toNat n35) 64))) == (Int.fdiv n45 (2 ^ (min (Int.toNat n35) 64)))) h39)
(R43 (n22 == n45) ((Int.fdiv n22 (2 ^ (min (Int.toNat n35) 64))) == (Int.fdiv n45 (2 ^ (min (Int.toNat n35) 64)))) h39)))))))))
(bsel b41
(R34 (IntKind.wrap .i64 (x31 - (1 : Int))) b40 h39)
(R34 x31 b40 h39)))))))
(∃ R52 : Sl → Int → AH → Prop, (∀ s57 : Sl, ∀ x58 : Int, ∀ h59, R52 s57 x58 h59 → 
(f_flat_Model_Used pt1 (0 : Int) (fun n60 h61 =>
(f_flat_Model_Do pt1 (1 : Int) (IntKind.wrap .u64 n22) (1 : Int) (1 : Int) (0 : Int) (0 : Int) (fun n62 n63 n64 n65 n66 b67 h68 =>
(∃ R69 : AH → Prop, (∀ h72, R69 h72 → 
(f_flat_Model_Do pt1 (5 : Int) (IntKind.wrap .u64 ((IntKind.wrap .u64 n22) * (4096 : Int))) (8 : Int) (IntKind.wrap .u64 x13) (0 : Int) (0 : Int) (fun n73 n74 n75 n76 n77 b78 h79 =>
(bsel (n64 != (4 : Int))
(bsel (n75 != (0 : Int))
(Q false h79)
(f_flat_Model_Used pt1 (0 : Int) (fun n80 h81 =>
(bsel (n80 != (IntKind.wrap .i64 (n60 + x58)))
(Q false h81)
(bsel (n64 == (4 : Int))
(f_demesnelaw19_awake (fun b82 h83 =>
(Q b82 h83)) h81)
(R20 s57 h81)))) h79))
(bsel (n64 == (4 : Int))
(f_demesnelaw19_awake (fun b84 h85 =>
(Q b84 h85)) h79)
(R20 s57 h79)))) h72)) ∧
(bsel (!(b32 == (n64 == (6 : Int))))
(Q false h68)
(f_flat_Model_Used pt1 (0 : Int) (fun n70 h71 =>
(bsel (n70 != n60)
(Q false h71)
(R69 h71))) h68)))) h61)) h59)) ∧
(bsel b32
(R52 s12 (0 : Int) h30)
(newA h30 (.cells #[(.int .i64 n22)] 3) fun b53 h54 =>
(apA 1 8 #[(.int .i64 (0 : Int))] 3 s12 (Sl.mk (some (Addr.mk b53 0 none)) 1 1) h54 fun s55 h56 =>
(R52 s55 x31 h56))))))))) ∧
(bsel (decide (n22 < (0 : Int)))
(R20 s12 h19)
(bsel (decide (n22 ≥ (34359738368 : Int)))
(R20 s12 h19)
(R23 h19))))))))) ∧
(bsel (decide (x13 < (Int.ofNat p0.len)))
(bsel (decide (x13 < (40 : Int)))
(R14 h11)
(f_demesnelaw19_awake (fun b15 h16 =>
(Q b15 h16)) h11))
(f_demesnelaw19_awake (fun b17 h18 =>
(Q b17 h18)) h11)))))) ∧
(bsel (n2 != (0 : Int))
(Q false h3)
(bsel pt1.isNone
(Q false h3)
(R4 h3))))) h)
def demesnelaw19_FlatCosts_A : demesnelaw19_FlatCosts_T := demesnelaw19_FlatCosts_G flat_Boot_A demesnelaw19_awake_A flat_Model_Used_A flat_Model_Do_A
def demesnelaw19_FlatCosts_W (f : demesnelaw19_FlatCosts_T) : ArS [.c .s] EnR := fun p0 K _Kp => f p0 (fun r0 => K (.bool r0))

/- (*demesne/sched.Queue).Tick: nothing is said of it -/
abbrev sched_Queue_Tick_T := Option Addr → (Bool → AH → Prop) → AP
def sched_Queue_Tick_A : sched_Queue_Tick_T := fun _ _ _ => False
def sched_Queue_Tick_W (f : sched_Queue_Tick_T) : ArS [.c .p] EnR := fun p0 K _Kp => f p0 (fun r0 => K (.bool r0))

/- (*demesne/flat.Model).Tick -/
abbrev flat_Model_Tick_T := Option Addr → (Bool → Int → AH → Prop) → AP
def flat_Model_Tick_G (f_sched_Queue_Tick : sched_Queue_Tick_T) (p0 : Option Addr) (Q : Bool → Int → AH → Prop) (h : AH) : Prop :=
(onSome p0 fun a1 =>
(aP (Addr.add a1 1) h fun pt2 =>
(bsel pt2.isNone
(Q false (12 : Int) h)
(onSome p0 fun a3 =>
(aP (Addr.add a3 1) h fun pt4 =>
(f_sched_Queue_Tick pt4 (fun b5 h6 =>
(Q b5 (0 : Int) h6)) h))))))
def flat_Model_Tick_A : flat_Model_Tick_T := flat_Model_Tick_G sched_Queue_Tick_A
def flat_Model_Tick_W (f : flat_Model_Tick_T) : ArS [.c .p] EnR := fun p0 K _Kp => f p0 (fun r0 r1 => K (.tuple #[(.bool r0), (.int .i64 r1)]))

/- (*demesne/sched.Queue).Line: nothing is said of it -/
abbrev sched_Queue_Line_T := Option Addr → (Sl → AH → Prop) → AP
def sched_Queue_Line_A : sched_Queue_Line_T := fun _ _ _ => False
def sched_Queue_Line_W (f : sched_Queue_Line_T) : ArS [.c .p] EnR := fun p0 K _Kp => f p0 (fun r0 => K (.slice r0.a r0.len r0.cap))

/- (*demesne/flat.Model).Line -/
abbrev flat_Model_Line_T := Option Addr → (Sl → AH → Prop) → AP
def flat_Model_Line_G (f_sched_Queue_Line : sched_Queue_Line_T) (p0 : Option Addr) (Q : Sl → AH → Prop) (h : AH) : Prop :=
(onSome p0 fun a1 =>
(aP (Addr.add a1 1) h fun pt2 =>
(bsel pt2.isNone
(Q Sl.nil h)
(onSome p0 fun a3 =>
(aP (Addr.add a3 1) h fun pt4 =>
(f_sched_Queue_Line pt4 (fun s5 h6 =>
(Q s5 h6)) h))))))
def flat_Model_Line_A : flat_Model_Line_T := flat_Model_Line_G sched_Queue_Line_A
def flat_Model_Line_W (f : flat_Model_Line_T) : ArS [.c .p] EnR := fun p0 K _Kp => f p0 (fun r0 => K (.slice r0.a r0.len r0.cap))

/- demesne/demesnelaw19.FlatNone -/
abbrev demesnelaw19_FlatNone_T := Int → Int → Int → Int → Int → Int → Int → (Bool → AH → Prop) → AP
def demesnelaw19_FlatNone_G (f_flat_Model_Do : flat_Model_Do_T) (f_flat_Model_Tick : flat_Model_Tick_T) (f_demesnelaw19_awake : demesnelaw19_awake_T) (f_flat_Model_Line : flat_Model_Line_T) (f_flat_Model_Used : flat_Model_Used_T) (p0 : Int) (p1 : Int) (p2 : Int) (p3 : Int) (p4 : Int) (p5 : Int) (p6 : Int) (Q : Bool → AH → Prop) (h : AH) : Prop :=
(newA h (.cells #[(.pointer none), (.pointer none), (.map none), (.map none)] 75) fun b1 h2 =>
(f_flat_Model_Do (some (Addr.mk b1 0 none)) p0 p1 p2 p3 p4 p5 (fun n3 n4 n5 n6 n7 b8 h9 =>
(f_flat_Model_Tick (some (Addr.mk b1 0 none)) (fun b10 n11 h12 =>
(f_demesnelaw19_awake (fun b13 h14 =>
(bsel b13
(bsel ((n3 == (0 : Int)) && ((n4 == (0 : Int)) && ((n5 == (12 : Int)) && (((n6 == (0 : Int)) && ((n7 == (0 : Int)) && true)) && ((b8 == false) && true)))))
(bsel (!b10)
(bsel (n11 == (12 : Int))
(f_flat_Model_Line (some (Addr.mk b1 0 none)) (fun s15 h16 =>
(bsel ((Int.ofNat s15.len) == (0 : Int))
(f_flat_Model_Used (some (Addr.mk b1 0 none)) p6 (fun n17 h18 =>
(Q (n17 == (-1 : Int)) h18)) h16)
(Q false h16))) h14)
(Q false h14))
(Q false h14))
(Q false h14))
(Q false h14))) h12)) h9)) h2))
def demesnelaw19_FlatNone_A : demesnelaw19_FlatNone_T := demesnelaw19_FlatNone_G flat_Model_Do_A flat_Model_Tick_A demesnelaw19_awake_A flat_Model_Line_A flat_Model_Used_A
def demesnelaw19_FlatNone_W (f : demesnelaw19_FlatNone_T) : ArS [.agg [(.i .u64), (.i .u64), (.i .u64), (.i .u64), (.i .u64), (.i .u64)], .c (.i .i64)] EnR := fun p0 p1 p2 p3 p4 p5 p6 K _Kp => f p0 p1 p2 p3 p4 p5 p6 (fun r0 => K (.bool r0))

end Go.Dn
