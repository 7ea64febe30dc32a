/- Printed by gen3.py: what each function does, as a predicate over a part of the heap. -/
import Derived.Test.YthplpkndhmhahaaDnY
import Derived.Test.YthplpkndhmhahaaParseD
import Derived.Test.YthplpkndhmhahaaDnZ
namespace Go.Dn

abbrev ty_abi_BoundsErrorCode : Nat := 6
abbrev ty_runtime_boundsError : Nat := 8
abbrev ty_runtime_errorString : Nat := 10
abbrev ty_runtime_plainError : Nat := 11
abbrev ty_runtime_errorAddressString : Nat := 14
abbrev ty_maps_unhashableTypeError : Nat := 19
abbrev ty_api_Errno : Nat := 25
abbrev ty_demesneref06_Area : Nat := 35
abbrev ty_bootmap_Area : Nat := 36
abbrev ty_api_Range : Nat := 44
abbrev ty_slices_sortedHint : Nat := 76
abbrev ty_slices_xorshift : Nat := 85
abbrev ty_runtime_TypeAssertionError : Nat := 96
abbrev ty_runtime_PanicNilError : Nat := 99
abbrev ty_abi_TFlag : Nat := 101
abbrev ty_abi_Kind : Nat := 102
abbrev ty_abi_NameOff : Nat := 105
abbrev ty_abi_TypeOff : Nat := 106
abbrev ty_abi_Type : Nat := 108
abbrev ty_unsafe_Pointer : Nat := 109

/- demesne/demesnelaw06.Cut -/
abbrev demesnelaw06_Cut_T := Sl → (Sl → AH → Prop) → AP
def demesnelaw06_Cut_A (p0 : Sl) (Q : Sl → AH → Prop) (h : AH) : Prop :=
(∃ R1 : Sl → AH → Prop, (∀ s2 : Sl, ∀ h3, R1 s2 h3 → 
(newA h3 (.cells #[] 5) fun b4 h5 =>
(apA 1 1 #[(.int .u8 (0 : Int))] 5 (Sl.mk (some (Addr.mk b4 0 none)) 0 0) s2 h5 fun s6 h7 =>
(Q s6 h7)))) ∧
(bsel (decide ((Int.ofNat p0.len) > (1400 : Int)))
(inB (1400 : Int) (p0.cap + 1)
(R1 (Sl.mk (if p0.cap = 0 then p0.a else Option.map (fun x => Addr.add x (0 * 1)) p0.a) 1400 p0.cap) h))
(R1 p0 h)))
def demesnelaw06_Cut_W (f : demesnelaw06_Cut_T) : ArS [.c .s] EnR := fun p0 K _Kp => f p0 (fun r0 => K (.slice r0.a r0.len r0.cap))

/- demesne/bootmap.Parse: by the kit -/
abbrev bootmap_Parse_T := Sl → (Sl → Int → AH → Prop) → AP
def bootmap_Parse_A : bootmap_Parse_T := paA 36
def bootmap_Parse_W (f : bootmap_Parse_T) : ArS [.c .s] EnR := fun p0 K _Kp => f p0 (fun r0 r1 => K (.tuple #[.slice r0.a r0.len r0.cap, .int .i64 r1]))

/- demesne/demesneref06.number -/
abbrev demesneref06_number_T := Sl → (Int → AH → Prop) → AP
def demesneref06_number_A (p0 : Sl) (Q : Int → AH → Prop) (h : AH) : Prop :=
(∃ I1 : Int → Int → Nat → AH → Prop, (∃ m2, I1 (0 : Int) (0 : Int) m2 h) ∧ ∀ x5 : Int, ∀ x6 : Int, ∀ m2 h4, I1 x5 x6 m2 h4 → 
(bsel (decide (x6 < (Int.ofNat p0.len)))
(onSome p0.a fun a7 =>
(inB x6 p0.len
(aI .u8 (Addr.add a7 (Int.toNat x6 * 1)) h4 fun n8 =>
(bsel (decide ((IntKind.wrap .i64 ((8 : Int) * x6)) < 0)) False
(∃ m3, m3 < m2 ∧ I1 (IntKind.wrap .u64 (x5 + (IntKind.wrap .u64 ((IntKind.wrap .u64 n8) * 2 ^ (min (Int.toNat (IntKind.wrap .i64 ((8 : Int) * x6))) 64))))) (IntKind.wrap .i64 (x6 + (1 : Int))) m3 h4)))))
(Q x5 h4)))
def demesneref06_number_W (f : demesneref06_number_T) : ArS [.c .s] EnR := fun p0 K _Kp => f p0 (fun r0 => K (.int .u64 r0))

/- demesne/demesneref06.Parse -/
abbrev demesneref06_Parse_T := Sl → (Sl → Int → AH → Prop) → AP
def demesneref06_Parse_G (f_demesneref06_number : demesneref06_number_T) (p0 : Sl) (Q : Sl → Int → AH → Prop) (h : AH) : Prop :=
(bsel (decide ((Int.ofNat p0.len) > (1280 : Int)))
(Q Sl.nil (4 : Int) h)
(bsel (decide ((Int.tmod (Int.ofNat p0.len) (20 : Int)) > (0 : Int)))
(Q Sl.nil (14 : Int) h)
(newA h (.cells #[] 35) fun b1 h2 =>
(∃ I3 : Sl → Int → Nat → AH → Prop, (∃ m4, I3 (Sl.mk (some (Addr.mk b1 0 none)) 0 0) (0 : Int) m4 h2) ∧ ∀ s7 : Sl, ∀ x8 : Int, ∀ m4 h6, I3 s7 x8 m4 h6 → 
(bsel (decide (x8 < (Int.ofNat p0.len)))
(inB (IntKind.wrap .i64 (x8 + (8 : Int))) (p0.cap + 1)
(inB x8 ((Int.toNat (IntKind.wrap .i64 (x8 + (8 : Int)))) + 1)
(inB (IntKind.wrap .i64 (x8 + (16 : Int))) (p0.cap + 1)
(inB (IntKind.wrap .i64 (x8 + (8 : Int))) ((Int.toNat (IntKind.wrap .i64 (x8 + (16 : Int)))) + 1)
(inB (IntKind.wrap .i64 (x8 + (20 : Int))) (p0.cap + 1)
(inB (IntKind.wrap .i64 (x8 + (16 : Int))) ((Int.toNat (IntKind.wrap .i64 (x8 + (20 : Int)))) + 1)
(f_demesneref06_number (Sl.mk (if p0.cap = (Int.toNat x8) then p0.a else Option.map (fun x => Addr.add x ((Int.toNat x8) * 1)) p0.a) ((Int.toNat (IntKind.wrap .i64 (x8 + (8 : Int)))) - (Int.toNat x8)) (p0.cap - (Int.toNat x8))) (fun n9 h10 =>
(f_demesneref06_number (Sl.mk (if p0.cap = (Int.toNat (IntKind.wrap .i64 (x8 + (8 : Int)))) then p0.a else Option.map (fun x => Addr.add x ((Int.toNat (IntKind.wrap .i64 (x8 + (8 : Int)))) * 1)) p0.a) ((Int.toNat (IntKind.wrap .i64 (x8 + (16 : Int)))) - (Int.toNat (IntKind.wrap .i64 (x8 + (8 : Int))))) (p0.cap - (Int.toNat (IntKind.wrap .i64 (x8 + (8 : Int)))))) (fun n11 h12 =>
(f_demesneref06_number (Sl.mk (if p0.cap = (Int.toNat (IntKind.wrap .i64 (x8 + (16 : Int)))) then p0.a else Option.map (fun x => Addr.add x ((Int.toNat (IntKind.wrap .i64 (x8 + (16 : Int)))) * 1)) p0.a) ((Int.toNat (IntKind.wrap .i64 (x8 + (20 : Int)))) - (Int.toNat (IntKind.wrap .i64 (x8 + (16 : Int))))) (p0.cap - (Int.toNat (IntKind.wrap .i64 (x8 + (16 : Int)))))) (fun n13 h14 =>
(bsel (decide (n11 > (0 : Int)))
(bsel (decide (n9 > (IntKind.wrap .u64 ((18446744073709551615 : Int) - n11))))
(Q Sl.nil (3 : Int) h14)
(newA h14 (.cells #[(.int .u64 n9), (.int .u64 n11), (.int .u32 ((IntKind.wrap .u32 n13) : Int))] 35) fun b15 h16 =>
(apA 3 24 #[(.int .u64 (0 : Int)), (.int .u64 (0 : Int)), (.int .u32 (0 : Int))] 35 s7 (Sl.mk (some (Addr.mk b15 0 none)) 1 1) h16 fun s17 h18 =>
(∃ m5, m5 < m4 ∧ I3 s17 (IntKind.wrap .i64 (x8 + (20 : Int))) m5 h18))))
(newA h14 (.cells #[(.int .u64 n9), (.int .u64 n11), (.int .u32 ((IntKind.wrap .u32 n13) : Int))] 35) fun b19 h20 =>
(apA 3 24 #[(.int .u64 (0 : Int)), (.int .u64 (0 : Int)), (.int .u32 (0 : Int))] 35 s7 (Sl.mk (some (Addr.mk b19 0 none)) 1 1) h20 fun s21 h22 =>
(∃ m5, m5 < m4 ∧ I3 s21 (IntKind.wrap .i64 (x8 + (20 : Int))) m5 h22))))) h12)) h10)) h6)))))))
(Q s7 (0 : Int) h6))))))
def demesneref06_Parse_A : demesneref06_Parse_T := demesneref06_Parse_G demesneref06_number_A
def demesneref06_Parse_W (f : demesneref06_Parse_T) : ArS [.c .s] EnR := fun p0 K _Kp => f p0 (fun r0 r1 => K (.tuple #[(.slice r0.a r0.len r0.cap), (.int .i64 r1)]))

/- demesne/demesnelaw06.Entry -/
abbrev demesnelaw06_Entry_T := Int → Int → Int → (Sl → AH → Prop) → AP
def demesnelaw06_Entry_A (p0 : Int) (p1 : Int) (p2 : Int) (Q : Sl → AH → Prop) (h : AH) : Prop :=
(newA h (.cells (madeCells #[(.int .u8 (0 : Int))] (20 * 1)) 5) fun b1 h2 =>
(∃ I3 : Int → Nat → AH → Prop, (∃ m4, I3 (0 : Int) m4 h2) ∧ ∀ x7 : Int, ∀ m4 h6, I3 x7 m4 h6 → 
(bsel (decide (x7 < (8 : Int)))
(bsel (decide ((IntKind.wrap .i64 ((8 : Int) * x7)) < 0)) False
(inB x7 20
(aC (Addr.add (Addr.mk b1 0 none) (Int.toNat x7 * 1)) (.int .u8 (IntKind.wrap .u8 (Int.fdiv p0 (2 ^ (min (Int.toNat (IntKind.wrap .i64 ((8 : Int) * x7))) 64))))) h6 fun h8 =>
(bsel (decide ((IntKind.wrap .i64 ((8 : Int) * x7)) < 0)) False
(inB (IntKind.wrap .i64 ((8 : Int) + x7)) 20
(aC (Addr.add (Addr.mk b1 0 none) (Int.toNat (IntKind.wrap .i64 ((8 : Int) + x7)) * 1)) (.int .u8 (IntKind.wrap .u8 (Int.fdiv p1 (2 ^ (min (Int.toNat (IntKind.wrap .i64 ((8 : Int) * x7))) 64))))) h8 fun h9 =>
(∃ m5, m5 < m4 ∧ I3 (IntKind.wrap .i64 (x7 + (1 : Int))) m5 h9)))))))
(∃ I10 : Int → Nat → AH → Prop, (∃ m11, I10 (0 : Int) m11 h6) ∧ ∀ x14 : Int, ∀ m11 h13, I10 x14 m11 h13 → 
(bsel (decide (x14 < (4 : Int)))
(bsel (decide ((IntKind.wrap .i64 ((8 : Int) * x14)) < 0)) False
(inB (IntKind.wrap .i64 ((16 : Int) + x14)) 20
(aC (Addr.add (Addr.mk b1 0 none) (Int.toNat (IntKind.wrap .i64 ((16 : Int) + x14)) * 1)) (.int .u8 (IntKind.wrap .u8 (Int.fdiv p2 (2 ^ (min (Int.toNat (IntKind.wrap .i64 ((8 : Int) * x14))) 32))))) h13 fun h15 =>
(∃ m12, m12 < m11 ∧ I10 (IntKind.wrap .i64 (x14 + (1 : Int))) m12 h15))))
(Q (Sl.mk (some (Addr.mk b1 0 none)) 20 20) h13))))))
def demesnelaw06_Entry_W (f : demesnelaw06_Entry_T) : ArS [.c (.i .u64), .c (.i .u64), .c (.i .u32)] EnR := fun p0 p1 p2 K _Kp => f p0 p1 p2 (fun r0 => K (.slice r0.a r0.len r0.cap))

/- (demesne/bootmap.Area).frames -/
abbrev bootmap_Area_frames_T := Int → Int → Int → Int → (Int → Int → AH → Prop) → AP
def bootmap_Area_frames_A (p0 : Int) (p1 : Int) (p2 : Int) (p3 : Int) (Q : Int → Int → AH → Prop) (h : AH) : Prop :=
(∃ R1 : Int → Int → AH → Prop, (∀ x2 : Int, ∀ x3 : Int, ∀ h4, R1 x2 x3 h4 → 
(∃ R5 : Int → AH → Prop, (∀ x6 : Int, ∀ h7, R5 x6 h7 → 
(Q ((IntKind.wrap .i64 (if (IntKind.wrap .u64 p3) < x2 then (IntKind.wrap .u64 p3) else x2)) : Int) ((IntKind.wrap .i64 (if (IntKind.wrap .u64 p3) < x6 then (IntKind.wrap .u64 p3) else x6)) : Int) h7)) ∧
(bsel (p1 == (0 : Int))
(R5 x2 h4)
(R5 x3 h4)))) ∧
(bsel (p2 == (1 : Int))
(bsel ((Int.tmod p0 (4096 : Int)) != (0 : Int))
(R1 (IntKind.wrap .u64 ((IntKind.wrap .u64 (Int.tdiv p0 (4096 : Int))) + (1 : Int))) (IntKind.wrap .u64 (Int.tdiv (IntKind.wrap .u64 (p0 + p1)) (4096 : Int))) h)
(R1 (IntKind.wrap .u64 (Int.tdiv p0 (4096 : Int))) (IntKind.wrap .u64 (Int.tdiv (IntKind.wrap .u64 (p0 + p1)) (4096 : Int))) h))
(bsel ((Int.tmod (IntKind.wrap .u64 (p0 + p1)) (4096 : Int)) != (0 : Int))
(R1 (IntKind.wrap .u64 (Int.tdiv p0 (4096 : Int))) (IntKind.wrap .u64 ((IntKind.wrap .u64 (Int.tdiv (IntKind.wrap .u64 (p0 + p1)) (4096 : Int))) + (1 : Int))) h)
(R1 (IntKind.wrap .u64 (Int.tdiv p0 (4096 : Int))) (IntKind.wrap .u64 (Int.tdiv (IntKind.wrap .u64 (p0 + p1)) (4096 : Int))) h))))
def bootmap_Area_frames_W (f : bootmap_Area_frames_T) : ArS [.agg [(.i .u64), (.i .u64), (.i .u32)], .c (.i .i64)] EnR := fun p0 p1 p2 p3 K _Kp => f p0 p1 p2 p3 (fun r0 r1 => K (.agg #[(.int .i64 r0), (.int .i64 r1)]))

/- slices.Clone[[]demesne/api.Range,demesne/api.Range] -/
abbrev slices_Clone_api_Range_api_Range_T := Sl → (Sl → AH → Prop) → AP
def slices_Clone_api_Range_api_Range_A (p0 : Sl) (Q : Sl → AH → Prop) (h : AH) : Prop :=
(bsel (Option.isNone p0.a)
(Q Sl.nil h)
(newA h (.cells #[] 44) fun b1 h2 =>
(apA 2 16 #[(.int .i64 (0 : Int)), (.int .i64 (0 : Int))] 44 (Sl.mk (some (Addr.mk b1 0 none)) 0 0) p0 h2 fun s3 h4 =>
(Q s3 h4))))
def slices_Clone_api_Range_api_Range_W (f : slices_Clone_api_Range_api_Range_T) : ArS [.c .s] EnR := fun p0 K _Kp => f p0 (fun r0 => K (.slice r0.a r0.len r0.cap))

/- demesne/bootmap.Merge$1 -/
abbrev bootmap_Merge_1_T := Int → Int → (Bool → AH → Prop) → AP
def bootmap_Merge_1_A (p0 : Int) (p1 : Int) (Q : Bool → AH → Prop) (h : AH) : Prop :=
(Q (decide (p1 ≤ p0)) h)
def bootmap_Merge_1_W (f : bootmap_Merge_1_T) : ArS [.agg [(.i .i64), (.i .i64)]] EnR := fun p0 p1 K _Kp => f p0 p1 (fun r0 => K (.bool r0))

/- slices.IndexFunc[[]demesne/api.Range,demesne/api.Range] -/
abbrev slices_IndexFunc_api_Range_api_Range_T := Sl → (Int → AH → Prop) → AP
def slices_IndexFunc_api_Range_api_Range_G (f_bootmap_Merge_1 : bootmap_Merge_1_T) (p0 : Sl) (Q : Int → AH → Prop) (h : AH) : Prop :=
(∃ I1 : Int → Nat → AH → Prop, (∃ m2, I1 (0 : Int) m2 h) ∧ ∀ x5 : Int, ∀ m2 h4, I1 x5 m2 h4 → 
(bsel (decide (x5 < (Int.ofNat p0.len)))
(onSome p0.a fun a6 =>
(inB x5 p0.len
(aI .i64 (Addr.add a6 (Int.toNat x5 * 2)) h4 fun n7 =>
(aI .i64 (Addr.add (Addr.add a6 (Int.toNat x5 * 2)) 1) h4 fun n8 =>
(f_bootmap_Merge_1 n7 n8 (fun b9 h10 =>
(bsel b9
(Q x5 h10)
(∃ m3, m3 < m2 ∧ I1 (IntKind.wrap .i64 (x5 + (1 : Int))) m3 h10))) h4)))))
(Q (-1 : Int) h4)))
def slices_IndexFunc_api_Range_api_Range_A : slices_IndexFunc_api_Range_api_Range_T := slices_IndexFunc_api_Range_api_Range_G bootmap_Merge_1_A
def slices_IndexFunc_api_Range_api_Range_W (f : slices_IndexFunc_api_Range_api_Range_T) : ArS [.c .s, .fn 28 [] []] EnR := fun p0 K _Kp => f p0 (fun r0 => K (.int .i64 r0))

/- slices.DeleteFunc[[]demesne/api.Range,demesne/api.Range] -/
abbrev slices_DeleteFunc_api_Range_api_Range_T := Sl → (Sl → AH → Prop) → AP
def slices_DeleteFunc_api_Range_api_Range_G (f_slices_IndexFunc_api_Range_api_Range : slices_IndexFunc_api_Range_api_Range_T) (f_bootmap_Merge_1 : bootmap_Merge_1_T) (p0 : Sl) (Q : Sl → AH → Prop) (h : AH) : Prop :=
(f_slices_IndexFunc_api_Range_api_Range p0 (fun n1 h2 =>
(bsel (n1 == (-1 : Int))
(Q p0 h2)
(∃ I3 : Int → Int → Nat → AH → Prop, (∃ m4, I3 n1 (IntKind.wrap .i64 (n1 + (1 : Int))) m4 h2) ∧ ∀ x7 : Int, ∀ x8 : Int, ∀ m4 h6, I3 x7 x8 m4 h6 → 
(bsel (decide (x8 < (Int.ofNat p0.len)))
(∃ R9 : Int → AH → Prop, (∀ x18 : Int, ∀ h19, R9 x18 h19 → 
(∃ m5, m5 < m4 ∧ I3 x18 (IntKind.wrap .i64 (x8 + (1 : Int))) m5 h19)) ∧
(onSome p0.a fun a10 =>
(inB x8 p0.len
(aI .i64 (Addr.add a10 (Int.toNat x8 * 2)) h6 fun n11 =>
(aI .i64 (Addr.add (Addr.add a10 (Int.toNat x8 * 2)) 1) h6 fun n12 =>
(f_bootmap_Merge_1 n11 n12 (fun b13 h14 =>
(bsel (!b13)
(onSome p0.a fun a15 =>
(inB x7 p0.len
(aC (Addr.add a15 (Int.toNat x7 * 2)) (.int .i64 n11) h14 fun h16 =>
(aC (Addr.add (Addr.add a15 (Int.toNat x7 * 2)) 1) (.int .i64 n12) h16 fun h17 =>
(R9 (IntKind.wrap .i64 (x7 + (1 : Int))) h17)))))
(R9 x7 h14))) h6))))))
(inB x7 (p0.len + 1)
(clrA #[(.int .i64 (0 : Int)), (.int .i64 (0 : Int))] (Sl.mk (if p0.cap = (Int.toNat x7) then p0.a else Option.map (fun x => Addr.add x ((Int.toNat x7) * 2)) p0.a) (p0.len - (Int.toNat x7)) (p0.cap - (Int.toNat x7))) h6 fun h20 =>
(inB x7 (p0.cap + 1)
(Q (Sl.mk (if p0.cap = 0 then p0.a else Option.map (fun x => Addr.add x (0 * 2)) p0.a) (Int.toNat x7) p0.cap) h20)))))))) h)
def slices_DeleteFunc_api_Range_api_Range_A : slices_DeleteFunc_api_Range_api_Range_T := slices_DeleteFunc_api_Range_api_Range_G slices_IndexFunc_api_Range_api_Range_A bootmap_Merge_1_A
def slices_DeleteFunc_api_Range_api_Range_W (f : slices_DeleteFunc_api_Range_api_Range_T) : ArS [.c .s, .fn 28 [] []] EnR := fun p0 K _Kp => f p0 (fun r0 => K (.slice r0.a r0.len r0.cap))

/- slices.SortFunc[[]demesne/api.Range,demesne/api.Range]: by the kit -/
abbrev slices_SortFunc_api_Range_api_Range_T := Sl → AP → AP
def slices_SortFunc_api_Range_api_Range_A : slices_SortFunc_api_Range_api_Range_T := soA rgE (Go.Proofs.ltOf rgCf) 2
def slices_SortFunc_api_Range_api_Range_W (f : slices_SortFunc_api_Range_api_Range_T) : ArS [.c .s, .fn 30 [] []] EnR := fun p0 K _Kp => f p0 (K (.tuple #[]))

/- demesne/bootmap.Merge -/
abbrev bootmap_Merge_T := Sl → (Sl → AH → Prop) → AP
def bootmap_Merge_G (f_slices_Clone_api_Range_api_Range : slices_Clone_api_Range_api_Range_T) (f_slices_DeleteFunc_api_Range_api_Range : slices_DeleteFunc_api_Range_api_Range_T) (f_slices_SortFunc_api_Range_api_Range : slices_SortFunc_api_Range_api_Range_T) (p0 : Sl) (Q : Sl → AH → Prop) (h : AH) : Prop :=
(f_slices_Clone_api_Range_api_Range p0 (fun s1 h2 =>
(f_slices_DeleteFunc_api_Range_api_Range s1 (fun s3 h4 =>
(f_slices_SortFunc_api_Range_api_Range s3 (fun h5 =>
(∃ I6 : Sl → Int → Nat → AH → Prop, (∃ m7, I6 Sl.nil (0 : Int) m7 h5) ∧ ∀ s10 : Sl, ∀ x11 : Int, ∀ m7 h9, I6 s10 x11 m7 h9 → 
(bsel (decide (x11 < (Int.ofNat s3.len)))
(∃ R12 : Sl → AH → Prop, (∀ s29 : Sl, ∀ h30, R12 s29 h30 → 
(∃ m8, m8 < m7 ∧ I6 s29 (IntKind.wrap .i64 (x11 + (1 : Int))) m8 h30)) ∧
(onSome s3.a fun a13 =>
(inB x11 s3.len
(aI .i64 (Addr.add a13 (Int.toNat x11 * 2)) h9 fun n14 =>
(aI .i64 (Addr.add (Addr.add a13 (Int.toNat x11 * 2)) 1) h9 fun n15 =>
(∃ R16 : Bool → AH → Prop, (∀ b19 : Bool, ∀ h20, R16 b19 h20 → 
(bsel b19
(onSome s10.a fun a21 =>
(inB (IntKind.wrap .i64 ((Int.ofNat s10.len) - (1 : Int))) s10.len
(aI .i64 (Addr.add (Addr.add a21 (Int.toNat (IntKind.wrap .i64 ((Int.ofNat s10.len) - (1 : Int))) * 2)) 1) h20 fun n22 =>
(onSome s10.a fun a23 =>
(inB (IntKind.wrap .i64 ((Int.ofNat s10.len) - (1 : Int))) s10.len
(aC (Addr.add (Addr.add a23 (Int.toNat (IntKind.wrap .i64 ((Int.ofNat s10.len) - (1 : Int))) * 2)) 1) (.int .i64 (if n15 > n22 then n15 else n22)) h20 fun h24 =>
(R12 s10 h24)))))))
(newA h20 (.cells #[(.int .i64 n14), (.int .i64 n15)] 44) fun b25 h26 =>
(apA 2 16 #[(.int .i64 (0 : Int)), (.int .i64 (0 : Int))] 44 s10 (Sl.mk (some (Addr.mk b25 0 none)) 1 1) h26 fun s27 h28 =>
(R12 s27 h28))))) ∧
(bsel (decide ((Int.ofNat s10.len) > (0 : Int)))
(onSome s10.a fun a17 =>
(inB (IntKind.wrap .i64 ((Int.ofNat s10.len) - (1 : Int))) s10.len
(aI .i64 (Addr.add (Addr.add a17 (Int.toNat (IntKind.wrap .i64 ((Int.ofNat s10.len) - (1 : Int))) * 2)) 1) h9 fun n18 =>
(R16 (decide (n14 ≤ n18)) h9))))
(R16 false h9))))))))
(Q s10 h9)))) h4)) h2)) h)
def bootmap_Merge_A : bootmap_Merge_T := bootmap_Merge_G slices_Clone_api_Range_api_Range_A slices_DeleteFunc_api_Range_api_Range_A slices_SortFunc_api_Range_api_Range_A
def bootmap_Merge_W (f : bootmap_Merge_T) : ArS [.c .s] EnR := fun p0 K _Kp => f p0 (fun r0 => K (.slice r0.a r0.len r0.cap))

/- demesne/bootmap.Less -/
abbrev bootmap_Less_T := Sl → Sl → (Sl → AH → Prop) → AP
def bootmap_Less_G (f_bootmap_Merge : bootmap_Merge_T) (p0 : Sl) (p1 : Sl) (Q : Sl → AH → Prop) (h : AH) : Prop :=
(f_bootmap_Merge p1 (fun s1 h2 =>
(f_bootmap_Merge p0 (fun s3 h4 =>
(∃ I5 : Sl → Int → Nat → AH → Prop, (∃ m6, I5 Sl.nil (0 : Int) m6 h4) ∧ ∀ s9 : Sl, ∀ x10 : Int, ∀ m6 h8, I5 s9 x10 m6 h8 → 
(bsel (decide (x10 < (Int.ofNat s3.len)))
(∃ R11 : Sl → AH → Prop, (∀ s40 : Sl, ∀ h41, R11 s40 h41 → 
(∃ m7, m7 < m6 ∧ I5 s40 (IntKind.wrap .i64 (x10 + (1 : Int))) m7 h41)) ∧
(onSome s3.a fun a12 =>
(inB x10 s3.len
(aI .i64 (Addr.add a12 (Int.toNat x10 * 2)) h8 fun n13 =>
(aI .i64 (Addr.add (Addr.add a12 (Int.toNat x10 * 2)) 1) h8 fun n14 =>
(∃ I15 : Sl → Int → Int → Nat → AH → Prop, (∃ m16, I15 s9 n13 (0 : Int) m16 h8) ∧ ∀ s19 : Sl, ∀ x20 : Int, ∀ x21 : Int, ∀ m16 h18, I15 s19 x20 x21 m16 h18 → 
(bsel (decide (x21 < (Int.ofNat s1.len)))
(∃ R22 : Sl → Int → AH → Prop, (∀ s33 : Sl, ∀ x34 : Int, ∀ h35, R22 s33 x34 h35 → 
(∃ m17, m17 < m16 ∧ I15 s33 x34 (IntKind.wrap .i64 (x21 + (1 : Int))) m17 h35)) ∧
(onSome s1.a fun a23 =>
(inB x21 s1.len
(aI .i64 (Addr.add a23 (Int.toNat x21 * 2)) h18 fun n24 =>
(aI .i64 (Addr.add (Addr.add a23 (Int.toNat x21 * 2)) 1) h18 fun n25 =>
(bsel (decide (n25 ≤ x20))
(R22 s19 x20 h18)
(bsel (decide (n24 ≥ n14))
(R22 s19 x20 h18)
(∃ R26 : Sl → AH → Prop, (∀ s31 : Sl, ∀ h32, R26 s31 h32 → 
(R22 s31 (if n25 > x20 then n25 else x20) h32)) ∧
(bsel (decide (n24 > x20))
(newA h18 (.cells #[(.int .i64 x20), (.int .i64 n24)] 44) fun b27 h28 =>
(apA 2 16 #[(.int .i64 (0 : Int)), (.int .i64 (0 : Int))] 44 s19 (Sl.mk (some (Addr.mk b27 0 none)) 1 1) h28 fun s29 h30 =>
(R26 s29 h30)))
(R26 s19 h18))))))))))
(bsel (decide (x20 < n14))
(newA h18 (.cells #[(.int .i64 x20), (.int .i64 n14)] 44) fun b36 h37 =>
(apA 2 16 #[(.int .i64 (0 : Int)), (.int .i64 (0 : Int))] 44 s19 (Sl.mk (some (Addr.mk b36 0 none)) 1 1) h37 fun s38 h39 =>
(R11 s38 h39)))
(R11 s19 h18)))))))))
(Q s9 h8)))) h2)) h)
def bootmap_Less_A : bootmap_Less_T := bootmap_Less_G bootmap_Merge_A
def bootmap_Less_W (f : bootmap_Less_T) : ArS [.c .s, .c .s] EnR := fun p0 p1 K _Kp => f p0 p1 (fun r0 => K (.slice r0.a r0.len r0.cap))

/- demesne/bootmap.Frames -/
abbrev bootmap_Frames_T := Sl → Int → Int → Int → (Sl → Int → AH → Prop) → AP
def bootmap_Frames_G (f_bootmap_Parse : bootmap_Parse_T) (f_bootmap_Area_frames : bootmap_Area_frames_T) (f_bootmap_Less : bootmap_Less_T) (p0 : Sl) (p1 : Int) (p2 : Int) (p3 : Int) (Q : Sl → Int → AH → Prop) (h : AH) : Prop :=
(∃ R1 : AH → Prop, (∀ h2, R1 h2 → 
(f_bootmap_Parse p0 (fun s3 n4 h5 =>
(bsel (n4 != (0 : Int))
(Q Sl.nil n4 h5)
(newA h5 (.cells #[(.int .i64 p2), (.int .i64 p3)] 44) fun b6 h7 =>
(∃ I8 : Sl → Sl → Int → Nat → AH → Prop, (∃ m9, I8 Sl.nil (Sl.mk (some (Addr.mk b6 0 none)) 1 1) (0 : Int) m9 h7) ∧ ∀ s12 : Sl, ∀ s13 : Sl, ∀ x14 : Int, ∀ m9 h11, I8 s12 s13 x14 m9 h11 → 
(bsel (decide (x14 < (Int.ofNat s3.len)))
(∃ R15 : Sl → Sl → AH → Prop, (∀ s31 : Sl, ∀ s32 : Sl, ∀ h33, R15 s31 s32 h33 → 
(∃ m10, m10 < m9 ∧ I8 s31 s32 (IntKind.wrap .i64 (x14 + (1 : Int))) m10 h33)) ∧
(onSome s3.a fun a16 =>
(inB x14 s3.len
(aI .u64 (Addr.add a16 (Int.toNat x14 * 3)) h11 fun n17 =>
(aI .u64 (Addr.add (Addr.add a16 (Int.toNat x14 * 3)) 1) h11 fun n18 =>
(aI .u32 (Addr.add (Addr.add a16 (Int.toNat x14 * 3)) 2) h11 fun n19 =>
(f_bootmap_Area_frames n17 n18 n19 p1 (fun n20 n21 h22 =>
(bsel (n19 == (1 : Int))
(newA h22 (.cells #[(.int .i64 n20), (.int .i64 n21)] 44) fun b23 h24 =>
(apA 2 16 #[(.int .i64 (0 : Int)), (.int .i64 (0 : Int))] 44 s12 (Sl.mk (some (Addr.mk b23 0 none)) 1 1) h24 fun s25 h26 =>
(R15 s25 s13 h26)))
(newA h22 (.cells #[(.int .i64 n20), (.int .i64 n21)] 44) fun b27 h28 =>
(apA 2 16 #[(.int .i64 (0 : Int)), (.int .i64 (0 : Int))] 44 s13 (Sl.mk (some (Addr.mk b27 0 none)) 1 1) h28 fun s29 h30 =>
(R15 s12 s29 h30))))) h11)))))))
(f_bootmap_Less s12 s13 (fun s34 h35 =>
(bsel ((Int.ofNat s34.len) == (0 : Int))
(Q Sl.nil (7 : Int) h35)
(Q s34 (0 : Int) h35))) h11)))))) h2)) ∧
(bsel (decide (p1 < (1 : Int)))
(Q Sl.nil (1 : Int) h)
(bsel (decide (p1 > (1048576 : Int)))
(Q Sl.nil (1 : Int) h)
(bsel (decide (p2 < (0 : Int)))
(Q Sl.nil (1 : Int) h)
(bsel (decide (p3 < p2))
(Q Sl.nil (1 : Int) h)
(bsel (decide (p3 > p1))
(Q Sl.nil (1 : Int) h)
(R1 h)))))))
def bootmap_Frames_A : bootmap_Frames_T := bootmap_Frames_G bootmap_Parse_A bootmap_Area_frames_A bootmap_Less_A
def bootmap_Frames_W (f : bootmap_Frames_T) : ArS [.c .s, .c (.i .i64), .agg [(.i .i64), (.i .i64)]] EnR := fun p0 p1 p2 p3 K _Kp => f p0 p1 p2 p3 (fun r0 r1 => K (.tuple #[(.slice r0.a r0.len r0.cap), (.int .i64 r1)]))

/- demesne/demesneref06.Same -/
abbrev demesneref06_Same_T := Sl → Sl → (Bool → AH → Prop) → AP
def demesneref06_Same_A (p0 : Sl) (p1 : Sl) (Q : Bool → AH → Prop) (h : AH) : Prop :=
(bsel ((Int.ofNat p0.len) != (Int.ofNat p1.len))
(Q false h)
(∃ I1 : Int → Nat → AH → Prop, (∃ m2, I1 (0 : Int) m2 h) ∧ ∀ x5 : Int, ∀ m2 h4, I1 x5 m2 h4 → 
(bsel (decide (x5 < (Int.ofNat p0.len)))
(onSome p0.a fun a6 =>
(inB x5 p0.len
(aI .i64 (Addr.add a6 (Int.toNat x5 * 2)) h4 fun n7 =>
(aI .i64 (Addr.add (Addr.add a6 (Int.toNat x5 * 2)) 1) h4 fun n8 =>
(onSome p1.a fun a9 =>
(inB x5 p1.len
(aI .i64 (Addr.add a9 (Int.toNat x5 * 2)) h4 fun n10 =>
(aI .i64 (Addr.add (Addr.add a9 (Int.toNat x5 * 2)) 1) h4 fun n11 =>
(bsel (!((n7 == n10) && ((n8 == n11) && true)))
(Q false h4)
(∃ m3, m3 < m2 ∧ I1 (IntKind.wrap .i64 (x5 + (1 : Int))) m3 h4))))))))))
(Q true h4))))
def demesneref06_Same_W (f : demesneref06_Same_T) : ArS [.c .s, .c .s] EnR := fun p0 p1 K _Kp => f p0 p1 (fun r0 => K (.bool r0))

/- demesne/demesnelaw06.awake -/
abbrev demesnelaw06_awake_T := (Bool → AH → Prop) → AP
def demesnelaw06_awake_G (f_demesnelaw06_Entry : demesnelaw06_Entry_T) (f_bootmap_Frames : bootmap_Frames_T) (f_demesneref06_Same : demesneref06_Same_T) (Q : Bool → AH → Prop) (h : AH) : Prop :=
(f_demesnelaw06_Entry (0 : Int) (65536 : Int) (1 : Int) (fun s1 h2 =>
(f_demesnelaw06_Entry (12289 : Int) (1 : Int) (2 : Int) (fun s3 h4 =>
(apA 1 1 #[(.int .u8 (0 : Int))] 5 s1 s3 h4 fun s5 h6 =>
(f_bootmap_Frames s5 (8 : Int) (0 : Int) (1 : Int) (fun s7 n8 h9 =>
(bsel (n8 == (0 : Int))
(newA h9 (.cells #[(.int .i64 (1 : Int)), (.int .i64 (3 : Int)), (.int .i64 (4 : Int)), (.int .i64 (8 : Int))] 44) fun b10 h11 =>
(f_demesneref06_Same s7 (Sl.mk (some (Addr.mk b10 0 none)) 2 2) (fun b12 h13 =>
(Q b12 h13)) h11))
(Q false h9))) h6))) h2)) h)
def demesnelaw06_awake_A : demesnelaw06_awake_T := demesnelaw06_awake_G demesnelaw06_Entry_A bootmap_Frames_A demesneref06_Same_A
def demesnelaw06_awake_W (f : demesnelaw06_awake_T) : ArS [] EnR := fun  K _Kp => f  (fun r0 => K (.bool r0))

/- demesne/demesnelaw06.BootmapParses -/
abbrev demesnelaw06_BootmapParses_T := Sl → (Bool → AH → Prop) → AP
def demesnelaw06_BootmapParses_G (f_demesnelaw06_Cut : demesnelaw06_Cut_T) (f_bootmap_Parse : bootmap_Parse_T) (f_demesneref06_Parse : demesneref06_Parse_T) (f_demesnelaw06_awake : demesnelaw06_awake_T) (p0 : Sl) (Q : Bool → AH → Prop) (h : AH) : Prop :=
(f_demesnelaw06_Cut p0 (fun s1 h2 =>
(f_bootmap_Parse s1 (fun s3 n4 h5 =>
(f_demesneref06_Parse s1 (fun s6 n7 h8 =>
(f_demesnelaw06_awake (fun b9 h10 =>
(bsel (!b9)
(Q false h10)
(bsel (n4 != n7)
(Q false h10)
(bsel ((Int.ofNat s3.len) != (Int.ofNat s6.len))
(Q false h10)
(∃ I11 : Int → Nat → AH → Prop, (∃ m12, I11 (0 : Int) m12 h10) ∧ ∀ x15 : Int, ∀ m12 h14, I11 x15 m12 h14 → 
(bsel (decide (x15 < (Int.ofNat s6.len)))
(onSome s3.a fun a16 =>
(inB x15 s3.len
(aI .u64 (Addr.add a16 (Int.toNat x15 * 3)) h14 fun n17 =>
(aI .u64 (Addr.add (Addr.add a16 (Int.toNat x15 * 3)) 1) h14 fun n18 =>
(aI .u32 (Addr.add (Addr.add a16 (Int.toNat x15 * 3)) 2) h14 fun n19 =>
(onSome s6.a fun a20 =>
(inB x15 s6.len
(aI .u64 (Addr.add a20 (Int.toNat x15 * 3)) h14 fun n21 =>
(aI .u64 (Addr.add (Addr.add a20 (Int.toNat x15 * 3)) 1) h14 fun n22 =>
(aI .u32 (Addr.add (Addr.add a20 (Int.toNat x15 * 3)) 2) h14 fun n23 =>
(bsel (!((n17 == n21) && ((n18 == n22) && ((n19 == n23) && true))))
(Q false h14)
(∃ m13, m13 < m12 ∧ I11 (IntKind.wrap .i64 (x15 + (1 : Int))) m13 h14))))))))))))
(Q true h14))))))) h8)) h5)) h2)) h)
def demesnelaw06_BootmapParses_A : demesnelaw06_BootmapParses_T := demesnelaw06_BootmapParses_G demesnelaw06_Cut_A bootmap_Parse_A demesneref06_Parse_A demesnelaw06_awake_A
def demesnelaw06_BootmapParses_W (f : demesnelaw06_BootmapParses_T) : ArS [.c .s] EnR := fun p0 K _Kp => f p0 (fun r0 => K (.bool r0))

/- demesne/demesnelaw06.Few -/
abbrev demesnelaw06_Few_T := Sl → Int → (Sl → AH → Prop) → AP
def demesnelaw06_Few_A (p0 : Sl) (p1 : Int) (Q : Sl → AH → Prop) (h : AH) : Prop :=
(∃ R1 : Sl → AH → Prop, (∀ s2 : Sl, ∀ h3, R1 s2 h3 → 
(newA h3 (.cells #[] 44) fun b4 h5 =>
(apA 2 16 #[(.int .i64 (0 : Int)), (.int .i64 (0 : Int))] 44 (Sl.mk (some (Addr.mk b4 0 none)) 0 0) s2 h5 fun s6 h7 =>
(Q s6 h7)))) ∧
(bsel (decide ((Int.ofNat p0.len) > p1))
(inB p1 (p0.cap + 1)
(R1 (Sl.mk (if p0.cap = 0 then p0.a else Option.map (fun x => Addr.add x (0 * 2)) p0.a) (Int.toNat p1) p0.cap) h))
(R1 p0 h)))
def demesnelaw06_Few_W (f : demesnelaw06_Few_T) : ArS [.c .s, .c (.i .i64)] EnR := fun p0 p1 K _Kp => f p0 p1 (fun r0 => K (.slice r0.a r0.len r0.cap))

/- demesne/demesneref06.Ends -/
abbrev demesneref06_Ends_T := Sl → Sl → (Sl → AH → Prop) → AP
def demesneref06_Ends_A (p0 : Sl) (p1 : Sl) (Q : Sl → AH → Prop) (h : AH) : Prop :=
(newA h (.cells #[] 3) fun b1 h2 =>
(newA h2 (.cells #[(.slice p0.a p0.len p0.cap), (.slice p1.a p1.len p1.cap)] 38) fun b3 h4 =>
(∃ I5 : Sl → Int → Nat → AH → Prop, (∃ m6, I5 (Sl.mk (some (Addr.mk b1 0 none)) 0 0) (0 : Int) m6 h4) ∧ ∀ s9 : Sl, ∀ x10 : Int, ∀ m6 h8, I5 s9 x10 m6 h8 → 
(bsel (decide (x10 < (2 : Int)))
(inB x10 2
(aS (Addr.add (Addr.mk b3 0 none) (Int.toNat x10 * 1)) h8 fun s11 =>
(∃ I12 : Sl → Int → Nat → AH → Prop, (∃ m13, I12 s9 (0 : Int) m13 h8) ∧ ∀ s16 : Sl, ∀ x17 : Int, ∀ m13 h15, I12 s16 x17 m13 h15 → 
(bsel (decide (x17 < (Int.ofNat s11.len)))
(onSome s11.a fun a18 =>
(inB x17 s11.len
(aI .i64 (Addr.add a18 (Int.toNat x17 * 2)) h15 fun n19 =>
(aI .i64 (Addr.add (Addr.add a18 (Int.toNat x17 * 2)) 1) h15 fun n20 =>
(newA h15 (.cells #[(.int .i64 n19), (.int .i64 n20)] 3) fun b21 h22 =>
(∃ I23 : Sl → Int → Nat → AH → Prop, (∃ m24, I23 s16 (0 : Int) m24 h22) ∧ ∀ s27 : Sl, ∀ x28 : Int, ∀ m24 h26, I23 s27 x28 m24 h26 → 
(bsel (decide (x28 < (2 : Int)))
(inB x28 2
(aI .i64 (Addr.add (Addr.mk b21 0 none) (Int.toNat x28 * 1)) h26 fun n29 =>
(newA h26 (.cells #[] 3) fun b30 h31 =>
(∃ I32 : Sl → Bool → Int → Nat → AH → Prop, (∃ m33, I32 (Sl.mk (some (Addr.mk b30 0 none)) 0 0) false (0 : Int) m33 h31) ∧ ∀ s36 : Sl, ∀ b37 : Bool, ∀ x38 : Int, ∀ m33 h35, I32 s36 b37 x38 m33 h35 → 
(bsel (decide (x38 < (Int.ofNat s27.len)))
(onSome s27.a fun a39 =>
(inB x38 s27.len
(aI .i64 (Addr.add a39 (Int.toNat x38 * 1)) h35 fun n40 =>
(∃ R41 : Bool → AH → Prop, (∀ b42 : Bool, ∀ h43, R41 b42 h43 → 
(∃ R44 : Sl → Bool → AH → Prop, (∀ s49 : Sl, ∀ b50 : Bool, ∀ h51, R44 s49 b50 h51 → 
(newA h51 (.cells #[(.int .i64 n40)] 3) fun b52 h53 =>
(apA 1 8 #[(.int .i64 (0 : Int))] 3 s49 (Sl.mk (some (Addr.mk b52 0 none)) 1 1) h53 fun s54 h55 =>
(∃ m34, m34 < m33 ∧ I32 s54 b50 (IntKind.wrap .i64 (x38 + (1 : Int))) m34 h55)))) ∧
(bsel (!b42)
(bsel (decide (n40 > n29))
(newA h43 (.cells #[(.int .i64 n29)] 3) fun b45 h46 =>
(apA 1 8 #[(.int .i64 (0 : Int))] 3 s36 (Sl.mk (some (Addr.mk b45 0 none)) 1 1) h46 fun s47 h48 =>
(R44 s47 true h48)))
(R44 s36 b42 h43))
(R44 s36 b42 h43)))) ∧
(bsel (n40 == n29)
(R41 true h35)
(R41 b37 h35))))))
(∃ R56 : Sl → AH → Prop, (∀ s61 : Sl, ∀ h62, R56 s61 h62 → 
(∃ m25, m25 < m24 ∧ I23 s61 (IntKind.wrap .i64 (x28 + (1 : Int))) m25 h62)) ∧
(bsel (!b37)
(newA h35 (.cells #[(.int .i64 n29)] 3) fun b57 h58 =>
(apA 1 8 #[(.int .i64 (0 : Int))] 3 s36 (Sl.mk (some (Addr.mk b57 0 none)) 1 1) h58 fun s59 h60 =>
(R56 s59 h60)))
(R56 s36 h35))))))))
(∃ m14, m14 < m13 ∧ I12 s27 (IntKind.wrap .i64 (x17 + (1 : Int))) m14 h26))))))))
(∃ m7, m7 < m6 ∧ I5 s16 (IntKind.wrap .i64 (x10 + (1 : Int))) m7 h15)))))
(Q s9 h8)))))
def demesneref06_Ends_W (f : demesneref06_Ends_T) : ArS [.c .s, .c .s] EnR := fun p0 p1 K _Kp => f p0 p1 (fun r0 => K (.slice r0.a r0.len r0.cap))

/- demesne/demesneref06.In -/
abbrev demesneref06_In_T := Int → Int → Int → (Bool → AH → Prop) → AP
def demesneref06_In_A (p0 : Int) (p1 : Int) (p2 : Int) (Q : Bool → AH → Prop) (h : AH) : Prop :=
(bsel (decide (p0 ≤ p2))
(Q (decide (p2 < p1)) h)
(Q false h))
def demesneref06_In_W (f : demesneref06_In_T) : ArS [.agg [(.i .i64), (.i .i64)], .c (.i .i64)] EnR := fun p0 p1 p2 K _Kp => f p0 p1 p2 (fun r0 => K (.bool r0))

/- demesne/demesneref06.Some -/
abbrev demesneref06_Some_T := Sl → Int → (Bool → AH → Prop) → AP
def demesneref06_Some_G (f_demesneref06_In : demesneref06_In_T) (p0 : Sl) (p1 : Int) (Q : Bool → AH → Prop) (h : AH) : Prop :=
(∃ I1 : Int → Nat → AH → Prop, (∃ m2, I1 (0 : Int) m2 h) ∧ ∀ x5 : Int, ∀ m2 h4, I1 x5 m2 h4 → 
(bsel (decide (x5 < (Int.ofNat p0.len)))
(onSome p0.a fun a6 =>
(inB x5 p0.len
(aI .i64 (Addr.add a6 (Int.toNat x5 * 2)) h4 fun n7 =>
(aI .i64 (Addr.add (Addr.add a6 (Int.toNat x5 * 2)) 1) h4 fun n8 =>
(f_demesneref06_In n7 n8 p1 (fun b9 h10 =>
(bsel b9
(Q true h10)
(∃ m3, m3 < m2 ∧ I1 (IntKind.wrap .i64 (x5 + (1 : Int))) m3 h10))) h4)))))
(Q false h4)))
def demesneref06_Some_A : demesneref06_Some_T := demesneref06_Some_G demesneref06_In_A
def demesneref06_Some_W (f : demesneref06_Some_T) : ArS [.c .s, .c (.i .i64)] EnR := fun p0 p1 K _Kp => f p0 p1 (fun r0 => K (.bool r0))

/- demesne/demesneref06.Less -/
abbrev demesneref06_Less_T := Sl → Sl → (Sl → AH → Prop) → AP
def demesneref06_Less_G (f_demesneref06_Ends : demesneref06_Ends_T) (f_demesneref06_Some : demesneref06_Some_T) (p0 : Sl) (p1 : Sl) (Q : Sl → AH → Prop) (h : AH) : Prop :=
(newA h (.cells #[] 44) fun b1 h2 =>
(f_demesneref06_Ends p0 p1 (fun s3 h4 =>
(∃ I5 : Sl → Int → Nat → AH → Prop, (∃ m6, I5 (Sl.mk (some (Addr.mk b1 0 none)) 0 0) (0 : Int) m6 h4) ∧ ∀ s9 : Sl, ∀ x10 : Int, ∀ m6 h8, I5 s9 x10 m6 h8 → 
(bsel (decide ((IntKind.wrap .i64 (x10 + (1 : Int))) < (Int.ofNat s3.len)))
(∃ R11 : Sl → AH → Prop, (∀ s46 : Sl, ∀ h47, R11 s46 h47 → 
(∃ m7, m7 < m6 ∧ I5 s46 (IntKind.wrap .i64 (x10 + (1 : Int))) m7 h47)) ∧
(∃ R12 : AH → Prop, (∀ h21, R12 h21 → 
(bsel (decide ((Int.ofNat s9.len) > (0 : Int)))
(onSome s9.a fun a22 =>
(inB (IntKind.wrap .i64 ((Int.ofNat s9.len) - (1 : Int))) s9.len
(aI .i64 (Addr.add (Addr.add a22 (Int.toNat (IntKind.wrap .i64 ((Int.ofNat s9.len) - (1 : Int))) * 2)) 1) h21 fun n23 =>
(onSome s3.a fun a24 =>
(inB x10 s3.len
(aI .i64 (Addr.add a24 (Int.toNat x10 * 1)) h21 fun n25 =>
(bsel (n23 == n25)
(onSome s3.a fun a26 =>
(inB (IntKind.wrap .i64 (x10 + (1 : Int))) s3.len
(aI .i64 (Addr.add a26 (Int.toNat (IntKind.wrap .i64 (x10 + (1 : Int))) * 1)) h21 fun n27 =>
(onSome s9.a fun a28 =>
(inB (IntKind.wrap .i64 ((Int.ofNat s9.len) - (1 : Int))) s9.len
(aC (Addr.add (Addr.add a28 (Int.toNat (IntKind.wrap .i64 ((Int.ofNat s9.len) - (1 : Int))) * 2)) 1) (.int .i64 n27) h21 fun h29 =>
(R11 s9 h29)))))))
(onSome s3.a fun a30 =>
(inB x10 s3.len
(onSome s3.a fun a31 =>
(inB (IntKind.wrap .i64 (x10 + (1 : Int))) s3.len
(aI .i64 (Addr.add a30 (Int.toNat x10 * 1)) h21 fun n32 =>
(aI .i64 (Addr.add a31 (Int.toNat (IntKind.wrap .i64 (x10 + (1 : Int))) * 1)) h21 fun n33 =>
(newA h21 (.cells #[(.int .i64 n32), (.int .i64 n33)] 44) fun b34 h35 =>
(apA 2 16 #[(.int .i64 (0 : Int)), (.int .i64 (0 : Int))] 44 s9 (Sl.mk (some (Addr.mk b34 0 none)) 1 1) h35 fun s36 h37 =>
(R11 s36 h37))))))))))))))))
(onSome s3.a fun a38 =>
(inB x10 s3.len
(onSome s3.a fun a39 =>
(inB (IntKind.wrap .i64 (x10 + (1 : Int))) s3.len
(aI .i64 (Addr.add a38 (Int.toNat x10 * 1)) h21 fun n40 =>
(aI .i64 (Addr.add a39 (Int.toNat (IntKind.wrap .i64 (x10 + (1 : Int))) * 1)) h21 fun n41 =>
(newA h21 (.cells #[(.int .i64 n40), (.int .i64 n41)] 44) fun b42 h43 =>
(apA 2 16 #[(.int .i64 (0 : Int)), (.int .i64 (0 : Int))] 44 s9 (Sl.mk (some (Addr.mk b42 0 none)) 1 1) h43 fun s44 h45 =>
(R11 s44 h45))))))))))) ∧
(onSome s3.a fun a13 =>
(inB x10 s3.len
(aI .i64 (Addr.add a13 (Int.toNat x10 * 1)) h8 fun n14 =>
(f_demesneref06_Some p0 n14 (fun b15 h16 =>
(bsel (!b15)
(R11 s9 h16)
(onSome s3.a fun a17 =>
(inB x10 s3.len
(aI .i64 (Addr.add a17 (Int.toNat x10 * 1)) h16 fun n18 =>
(f_demesneref06_Some p1 n18 (fun b19 h20 =>
(bsel b19
(R11 s9 h20)
(R12 h20))) h16)))))) h8))))))
(Q s9 h8)))) h2))
def demesneref06_Less_A : demesneref06_Less_T := demesneref06_Less_G demesneref06_Ends_A demesneref06_Some_A
def demesneref06_Less_W (f : demesneref06_Less_T) : ArS [.c .s, .c .s] EnR := fun p0 p1 K _Kp => f p0 p1 (fun r0 => K (.slice r0.a r0.len r0.cap))

/- demesne/demesnelaw06.BootmapRanges -/
abbrev demesnelaw06_BootmapRanges_T := Sl → Sl → (Bool → AH → Prop) → AP
def demesnelaw06_BootmapRanges_G (f_demesnelaw06_Few : demesnelaw06_Few_T) (f_demesnelaw06_awake : demesnelaw06_awake_T) (f_bootmap_Merge : bootmap_Merge_T) (f_demesneref06_Less : demesneref06_Less_T) (f_demesneref06_Same : demesneref06_Same_T) (f_bootmap_Less : bootmap_Less_T) (p0 : Sl) (p1 : Sl) (Q : Bool → AH → Prop) (h : AH) : Prop :=
(f_demesnelaw06_Few p0 (30 : Int) (fun s1 h2 =>
(f_demesnelaw06_Few p1 (30 : Int) (fun s3 h4 =>
(f_demesnelaw06_awake (fun b5 h6 =>
(bsel b5
(f_bootmap_Merge s1 (fun s7 h8 =>
(f_demesneref06_Less s1 Sl.nil (fun s9 h10 =>
(f_demesneref06_Same s7 s9 (fun b11 h12 =>
(bsel b11
(f_bootmap_Less s1 s3 (fun s13 h14 =>
(f_demesneref06_Less s1 s3 (fun s15 h16 =>
(f_demesneref06_Same s13 s15 (fun b17 h18 =>
(Q b17 h18)) h16)) h14)) h12)
(Q false h12))) h10)) h8)) h6)
(Q false h6))) h4)) h2)) h)
def demesnelaw06_BootmapRanges_A : demesnelaw06_BootmapRanges_T := demesnelaw06_BootmapRanges_G demesnelaw06_Few_A demesnelaw06_awake_A bootmap_Merge_A demesneref06_Less_A demesneref06_Same_A bootmap_Less_A
def demesnelaw06_BootmapRanges_W (f : demesnelaw06_BootmapRanges_T) : ArS [.c .s, .c .s] EnR := fun p0 p1 K _Kp => f p0 p1 (fun r0 => K (.bool r0))

/- demesne/demesneref06.whole -/
abbrev demesneref06_whole_T := Int → Int → Int → Int → (Int → Int → AH → Prop) → AP
def demesneref06_whole_A (p0 : Int) (p1 : Int) (_p2 : Int) (p3 : Int) (Q : Int → Int → AH → Prop) (h : AH) : Prop :=
(∃ R1 : Int → AH → Prop, (∀ x2 : Int, ∀ h3, R1 x2 h3 → 
(Q ((IntKind.wrap .i64 (if p3 < x2 then p3 else x2)) : Int) ((IntKind.wrap .i64 (if p3 < (Int.fdiv (IntKind.wrap .u64 (p0 + p1)) (2 ^ (12 : Nat))) then p3 else (Int.fdiv (IntKind.wrap .u64 (p0 + p1)) (2 ^ (12 : Nat))))) : Int) h3)) ∧
(bsel (decide ((bits .and .u64 p0 (4095 : Int)) > (0 : Int)))
(R1 (IntKind.wrap .u64 ((Int.fdiv p0 (2 ^ (12 : Nat))) + (1 : Int))) h)
(R1 (Int.fdiv p0 (2 ^ (12 : Nat))) h)))
def demesneref06_whole_W (f : demesneref06_whole_T) : ArS [.agg [(.i .u64), (.i .u64), (.i .u32)], .c (.i .u64)] EnR := fun p0 p1 p2 p3 K _Kp => f p0 p1 p2 p3 (fun r0 r1 => K (.agg #[(.int .i64 r0), (.int .i64 r1)]))

/- demesne/demesneref06.touched -/
abbrev demesneref06_touched_T := Int → Int → Int → Int → (Int → Int → AH → Prop) → AP
def demesneref06_touched_A (p0 : Int) (p1 : Int) (_p2 : Int) (p3 : Int) (Q : Int → Int → AH → Prop) (h : AH) : Prop :=
(bsel (p1 == (0 : Int))
(Q (0 : Int) (0 : Int) h)
(Q ((IntKind.wrap .i64 (if p3 < (Int.fdiv p0 (2 ^ (12 : Nat))) then p3 else (Int.fdiv p0 (2 ^ (12 : Nat))))) : Int) ((IntKind.wrap .i64 (if p3 < (IntKind.wrap .u64 ((Int.fdiv (IntKind.wrap .u64 ((IntKind.wrap .u64 (p0 + p1)) - (1 : Int))) (2 ^ (12 : Nat))) + (1 : Int))) then p3 else (IntKind.wrap .u64 ((Int.fdiv (IntKind.wrap .u64 ((IntKind.wrap .u64 (p0 + p1)) - (1 : Int))) (2 ^ (12 : Nat))) + (1 : Int))))) : Int) h))
def demesneref06_touched_W (f : demesneref06_touched_T) : ArS [.agg [(.i .u64), (.i .u64), (.i .u32)], .c (.i .u64)] EnR := fun p0 p1 p2 p3 K _Kp => f p0 p1 p2 p3 (fun r0 r1 => K (.agg #[(.int .i64 r0), (.int .i64 r1)]))

/- demesne/demesneref06.Frames -/
abbrev demesneref06_Frames_T := Sl → Int → Int → Int → (Sl → Int → AH → Prop) → AP
def demesneref06_Frames_G (f_demesneref06_Parse : demesneref06_Parse_T) (f_demesneref06_whole : demesneref06_whole_T) (f_demesneref06_touched : demesneref06_touched_T) (f_demesneref06_Less : demesneref06_Less_T) (p0 : Sl) (p1 : Int) (p2 : Int) (p3 : Int) (Q : Sl → Int → AH → Prop) (h : AH) : Prop :=
(∃ R1 : AH → Prop, (∀ h2, R1 h2 → 
(f_demesneref06_Parse p0 (fun s3 n4 h5 =>
(bsel (n4 != (0 : Int))
(Q Sl.nil n4 h5)
((newA h5 (.cells #[] 44) fun b6 h7 =>
(newA h7 (.cells #[(.int .i64 p2), (.int .i64 p3)] 44) fun b8 h9 =>
(∃ I10 : Sl → Sl → Int → Nat → AH → Prop, (∃ m11, I10 (Sl.mk (some (Addr.mk b6 0 none)) 0 0) (Sl.mk (some (Addr.mk b8 0 none)) 1 1) (0 : Int) m11 h9) ∧ ∀ s14 : Sl, ∀ s15 : Sl, ∀ x16 : Int, ∀ m11 h13, I10 s14 s15 x16 m11 h13 → 
(bsel (decide (x16 < (Int.ofNat s3.len)))
(∃ R17 : Sl → Sl → AH → Prop, (∀ s36 : Sl, ∀ s37 : Sl, ∀ h38, R17 s36 s37 h38 → 
(∃ m12, m12 < m11 ∧ I10 s36 s37 (IntKind.wrap .i64 (x16 + (1 : Int))) m12 h38)) ∧
(onSome s3.a fun a18 =>
(inB x16 s3.len
(aI .u64 (Addr.add a18 (Int.toNat x16 * 3)) h13 fun n19 =>
(aI .u64 (Addr.add (Addr.add a18 (Int.toNat x16 * 3)) 1) h13 fun n20 =>
(aI .u32 (Addr.add (Addr.add a18 (Int.toNat x16 * 3)) 2) h13 fun n21 =>
(bsel (n21 == (1 : Int))
(f_demesneref06_whole n19 n20 n21 (IntKind.wrap .u64 p1) (fun n22 n23 h24 =>
(newA h24 (.cells #[(.int .i64 n22), (.int .i64 n23)] 44) fun b25 h26 =>
(apA 2 16 #[(.int .i64 (0 : Int)), (.int .i64 (0 : Int))] 44 s14 (Sl.mk (some (Addr.mk b25 0 none)) 1 1) h26 fun s27 h28 =>
(R17 s27 s15 h28)))) h13)
(f_demesneref06_touched n19 n20 n21 (IntKind.wrap .u64 p1) (fun n29 n30 h31 =>
(newA h31 (.cells #[(.int .i64 n29), (.int .i64 n30)] 44) fun b32 h33 =>
(apA 2 16 #[(.int .i64 (0 : Int)), (.int .i64 (0 : Int))] 44 s15 (Sl.mk (some (Addr.mk b32 0 none)) 1 1) h33 fun s34 h35 =>
(R17 s14 s34 h35)))) h13))))))))
(f_demesneref06_Less s14 s15 (fun s39 h40 =>
(bsel ((Int.ofNat s39.len) == (0 : Int))
(Q Sl.nil (7 : Int) h40)
(Q s39 (0 : Int) h40))) h13))))) ∧
(newA h5 (.cells #[(.int .i64 p2), (.int .i64 p3)] 44) fun b41 h42 =>
(newA h42 (.cells #[] 44) fun b43 h44 =>
(∃ I45 : Sl → Sl → Int → Nat → AH → Prop, (∃ m46, I45 (Sl.mk (some (Addr.mk b43 0 none)) 0 0) (Sl.mk (some (Addr.mk b41 0 none)) 1 1) (0 : Int) m46 h44) ∧ ∀ s49 : Sl, ∀ s50 : Sl, ∀ x51 : Int, ∀ m46 h48, I45 s49 s50 x51 m46 h48 → 
(bsel (decide (x51 < (Int.ofNat s3.len)))
(∃ R52 : Sl → Sl → AH → Prop, (∀ s71 : Sl, ∀ s72 : Sl, ∀ h73, R52 s71 s72 h73 → 
(∃ m47, m47 < m46 ∧ I45 s71 s72 (IntKind.wrap .i64 (x51 + (1 : Int))) m47 h73)) ∧
(onSome s3.a fun a53 =>
(inB x51 s3.len
(aI .u64 (Addr.add a53 (Int.toNat x51 * 3)) h48 fun n54 =>
(aI .u64 (Addr.add (Addr.add a53 (Int.toNat x51 * 3)) 1) h48 fun n55 =>
(aI .u32 (Addr.add (Addr.add a53 (Int.toNat x51 * 3)) 2) h48 fun n56 =>
(bsel (n56 == (1 : Int))
(f_demesneref06_whole n54 n55 n56 (IntKind.wrap .u64 p1) (fun n57 n58 h59 =>
(newA h59 (.cells #[(.int .i64 n57), (.int .i64 n58)] 44) fun b60 h61 =>
(apA 2 16 #[(.int .i64 (0 : Int)), (.int .i64 (0 : Int))] 44 s49 (Sl.mk (some (Addr.mk b60 0 none)) 1 1) h61 fun s62 h63 =>
(R52 s62 s50 h63)))) h48)
(f_demesneref06_touched n54 n55 n56 (IntKind.wrap .u64 p1) (fun n64 n65 h66 =>
(newA h66 (.cells #[(.int .i64 n64), (.int .i64 n65)] 44) fun b67 h68 =>
(apA 2 16 #[(.int .i64 (0 : Int)), (.int .i64 (0 : Int))] 44 s50 (Sl.mk (some (Addr.mk b67 0 none)) 1 1) h68 fun s69 h70 =>
(R52 s49 s69 h70)))) h48))))))))
(f_demesneref06_Less s49 s50 (fun s74 h75 =>
(bsel ((Int.ofNat s74.len) == (0 : Int))
(Q Sl.nil (7 : Int) h75)
(Q s74 (0 : Int) h75))) h48)))))))) h2)) ∧
(bsel (decide (p1 < (1 : Int)))
(Q Sl.nil (1 : Int) h)
(bsel (decide (p1 > (1048576 : Int)))
(Q Sl.nil (1 : Int) h)
(bsel (decide (p2 < (0 : Int)))
(Q Sl.nil (1 : Int) h)
(bsel (decide (p3 < p2))
(Q Sl.nil (1 : Int) h)
(bsel (decide (p3 > p1))
(Q Sl.nil (1 : Int) h)
(R1 h)))))))
def demesneref06_Frames_A : demesneref06_Frames_T := demesneref06_Frames_G demesneref06_Parse_A demesneref06_whole_A demesneref06_touched_A demesneref06_Less_A
def demesneref06_Frames_W (f : demesneref06_Frames_T) : ArS [.c .s, .c (.i .i64), .agg [(.i .i64), (.i .i64)]] EnR := fun p0 p1 p2 p3 K _Kp => f p0 p1 p2 p3 (fun r0 r1 => K (.tuple #[(.slice r0.a r0.len r0.cap), (.int .i64 r1)]))

/- demesne/demesnelaw06.BootmapFrames -/
abbrev demesnelaw06_BootmapFrames_T := Sl → Int → Int → Int → (Bool → AH → Prop) → AP
def demesnelaw06_BootmapFrames_G (f_demesnelaw06_Cut : demesnelaw06_Cut_T) (f_bootmap_Frames : bootmap_Frames_T) (f_demesneref06_Frames : demesneref06_Frames_T) (f_demesnelaw06_awake : demesnelaw06_awake_T) (f_demesneref06_Same : demesneref06_Same_T) (p0 : Sl) (p1 : Int) (p2 : Int) (p3 : Int) (Q : Bool → AH → Prop) (h : AH) : Prop :=
(f_demesnelaw06_Cut p0 (fun s1 h2 =>
(f_bootmap_Frames s1 p1 p2 p3 (fun s3 n4 h5 =>
(f_demesneref06_Frames s1 p1 p2 p3 (fun s6 n7 h8 =>
(f_demesnelaw06_awake (fun b9 h10 =>
(bsel b9
(bsel (n4 == n7)
(f_demesneref06_Same s3 s6 (fun b11 h12 =>
(Q b11 h12)) h10)
(Q false h10))
(Q false h10))) h8)) h5)) h2)) h)
def demesnelaw06_BootmapFrames_A : demesnelaw06_BootmapFrames_T := demesnelaw06_BootmapFrames_G demesnelaw06_Cut_A bootmap_Frames_A demesneref06_Frames_A demesnelaw06_awake_A demesneref06_Same_A
def demesnelaw06_BootmapFrames_W (f : demesnelaw06_BootmapFrames_T) : ArS [.c .s, .c (.i .i64), .agg [(.i .i64), (.i .i64)]] EnR := fun p0 p1 p2 p3 K _Kp => f p0 p1 p2 p3 (fun r0 => K (.bool r0))

/- demesne/demesnelaw06.BootmapJust -/
abbrev demesnelaw06_BootmapJust_T := Sl → Sl → Int → (Bool → AH → Prop) → AP
def demesnelaw06_BootmapJust_G (f_demesnelaw06_Few : demesnelaw06_Few_T) (f_bootmap_Less : bootmap_Less_T) (f_demesnelaw06_awake : demesnelaw06_awake_T) (f_demesneref06_Some : demesneref06_Some_T) (f_bootmap_Merge : bootmap_Merge_T) (p0 : Sl) (p1 : Sl) (p2 : Int) (Q : Bool → AH → Prop) (h : AH) : Prop :=
(f_demesnelaw06_Few p0 (30 : Int) (fun s1 h2 =>
(f_demesnelaw06_Few p1 (30 : Int) (fun s3 h4 =>
(f_bootmap_Less s1 s3 (fun s5 h6 =>
(∃ I7 : Int → Nat → AH → Prop, (∃ m8, I7 (0 : Int) m8 h6) ∧ ∀ x11 : Int, ∀ m8 h10, I7 x11 m8 h10 → 
(bsel (decide (x11 < (Int.ofNat s5.len)))
(onSome s5.a fun a12 =>
(inB x11 s5.len
(aI .i64 (Addr.add a12 (Int.toNat x11 * 2)) h10 fun n13 =>
(aI .i64 (Addr.add (Addr.add a12 (Int.toNat x11 * 2)) 1) h10 fun n14 =>
(bsel (decide (n13 ≥ n14))
(Q false h10)
(bsel (decide (x11 > (0 : Int)))
(onSome s5.a fun a15 =>
(inB (IntKind.wrap .i64 (x11 - (1 : Int))) s5.len
(aI .i64 (Addr.add (Addr.add a15 (Int.toNat (IntKind.wrap .i64 (x11 - (1 : Int))) * 2)) 1) h10 fun n16 =>
(bsel (decide (n16 ≥ n13))
(Q false h10)
(∃ m9, m9 < m8 ∧ I7 (IntKind.wrap .i64 (x11 + (1 : Int))) m9 h10)))))
(∃ m9, m9 < m8 ∧ I7 (IntKind.wrap .i64 (x11 + (1 : Int))) m9 h10)))))))
(f_demesnelaw06_awake (fun b17 h18 =>
(bsel b17
(f_demesneref06_Some s5 p2 (fun b19 h20 =>
(f_demesneref06_Some s1 p2 (fun b21 h22 =>
(bsel b21
(f_demesneref06_Some s3 p2 (fun b23 h24 =>
(bsel (b19 == (!b23))
(f_bootmap_Merge s1 (fun s25 h26 =>
(f_demesneref06_Some s25 p2 (fun b27 h28 =>
(f_demesneref06_Some s1 p2 (fun b29 h30 =>
(Q (b27 == b29) h30)) h28)) h26)) h24)
(Q false h24))) h22)
(bsel (b19 == false)
(f_bootmap_Merge s1 (fun s31 h32 =>
(f_demesneref06_Some s31 p2 (fun b33 h34 =>
(f_demesneref06_Some s1 p2 (fun b35 h36 =>
(Q (b33 == b35) h36)) h34)) h32)) h22)
(Q false h22)))) h20)) h18)
(Q false h18))) h10)))) h4)) h2)) h)
def demesnelaw06_BootmapJust_A : demesnelaw06_BootmapJust_T := demesnelaw06_BootmapJust_G demesnelaw06_Few_A bootmap_Less_A demesnelaw06_awake_A demesneref06_Some_A bootmap_Merge_A
def demesnelaw06_BootmapJust_W (f : demesnelaw06_BootmapJust_T) : ArS [.c .s, .c .s, .c (.i .i64)] EnR := fun p0 p1 p2 K _Kp => f p0 p1 p2 (fun r0 => K (.bool r0))

/- demesne/demesnelaw06.BootmapOrder -/
abbrev demesnelaw06_BootmapOrder_T := Sl → Int → Int → Int → Int → (Bool → AH → Prop) → AP
def demesnelaw06_BootmapOrder_G (f_demesnelaw06_Entry : demesnelaw06_Entry_T) (f_bootmap_Frames : bootmap_Frames_T) (f_demesneref06_Same : demesneref06_Same_T) (f_demesnelaw06_awake : demesnelaw06_awake_T) (f_demesneref06_Some : demesneref06_Some_T) (p0 : Sl) (p1 : Int) (p2 : Int) (p3 : Int) (p4 : Int) (Q : Bool → AH → Prop) (h : AH) : Prop :=
(newA h (.cells #[] 5) fun b1 h2 =>
(newA h2 (.cells #[] 5) fun b3 h4 =>
(∃ R5 : Sl → Sl → AH → Prop, (∀ s31 : Sl, ∀ s32 : Sl, ∀ h33, R5 s31 s32 h33 → 
(f_bootmap_Frames s31 p4 (0 : Int) (0 : Int) (fun s34 n35 h36 =>
(f_bootmap_Frames s32 p4 (0 : Int) (0 : Int) (fun s37 n38 h39 =>
(∃ R40 : AH → Prop, (∀ h43, R40 h43 → 
(∃ R44 : AH → Prop, (∀ h51, R44 h51 → 
(newA h51 (.cells #[] 5) fun b52 h53 =>
(apA 1 1 #[(.int .u8 (0 : Int))] 5 (Sl.mk (some (Addr.mk b52 0 none)) 0 0) s31 h53 fun s54 h55 =>
(f_demesnelaw06_Entry p1 p2 p3 (fun s56 h57 =>
(apA 1 1 #[(.int .u8 (0 : Int))] 5 s54 s56 h57 fun s58 h59 =>
(f_bootmap_Frames s58 p4 (0 : Int) (0 : Int) (fun s60 n61 h62 =>
(bsel (n61 == (7 : Int))
(f_demesnelaw06_awake (fun b63 h64 =>
(bsel b63
(Q ((Int.ofNat s60.len) == (0 : Int)) h64)
(Q false h64))) h62)
(∃ I65 : Int → Nat → AH → Prop, (∃ m66, I65 (0 : Int) m66 h62) ∧ ∀ x69 : Int, ∀ m66 h68, I65 x69 m66 h68 → 
(bsel (decide (x69 < (Int.ofNat s60.len)))
(onSome s60.a fun a70 =>
(inB x69 s60.len
(aI .i64 (Addr.add a70 (Int.toNat x69 * 2)) h68 fun n71 =>
(aI .i64 (Addr.add (Addr.add a70 (Int.toNat x69 * 2)) 1) h68 fun n72 =>
(f_demesneref06_Some s34 n71 (fun b73 h74 =>
(bsel (!b73)
(Q false h74)
(f_demesneref06_Some s34 (IntKind.wrap .i64 (n72 - (1 : Int))) (fun b75 h76 =>
(bsel (!b75)
(Q false h76)
(∃ m67, m67 < m66 ∧ I65 (IntKind.wrap .i64 (x69 + (1 : Int))) m67 h76))) h74))) h68)))))
(f_demesnelaw06_awake (fun b77 h78 =>
(bsel b77
(Q (n61 == (0 : Int)) h78)
(Q false h78))) h68))))) h59))) h55)))) ∧
(bsel (n35 != (0 : Int))
(f_demesnelaw06_awake (fun b45 h46 =>
(Q b45 h46)) h43)
(bsel (p3 == (1 : Int))
(f_demesnelaw06_awake (fun b47 h48 =>
(Q b47 h48)) h43)
(bsel (decide ((IntKind.wrap .u64 (p1 + p2)) < p1))
(f_demesnelaw06_awake (fun b49 h50 =>
(Q b49 h50)) h43)
(R44 h43)))))) ∧
(bsel (n35 != n38)
(Q false h39)
(f_demesneref06_Same s34 s37 (fun b41 h42 =>
(bsel (!b41)
(Q false h42)
(R40 h42))) h39)))) h36)) h33)) ∧
(∃ I6 : Sl → Sl → Int → Nat → AH → Prop, (∃ m7, I6 (Sl.mk (some (Addr.mk b1 0 none)) 0 0) (Sl.mk (some (Addr.mk b3 0 none)) 0 0) (0 : Int) m7 h4) ∧ ∀ s10 : Sl, ∀ s11 : Sl, ∀ x12 : Int, ∀ m7 h9, I6 s10 s11 x12 m7 h9 → 
(∃ R13 : AH → Prop, (∀ h14, R13 h14 → 
(onSome p0.a fun a15 =>
(inB x12 p0.len
(aI .u64 (Addr.add a15 (Int.toNat x12 * 3)) h14 fun n16 =>
(onSome p0.a fun a17 =>
(inB x12 p0.len
(aI .u64 (Addr.add (Addr.add a17 (Int.toNat x12 * 3)) 1) h14 fun n18 =>
(onSome p0.a fun a19 =>
(inB x12 p0.len
(aI .u32 (Addr.add (Addr.add a19 (Int.toNat x12 * 3)) 2) h14 fun n20 =>
(f_demesnelaw06_Entry n16 n18 n20 (fun s21 h22 =>
(apA 1 1 #[(.int .u8 (0 : Int))] 5 s10 s21 h22 fun s23 h24 =>
(newA h24 (.cells #[] 5) fun b25 h26 =>
(apA 1 1 #[(.int .u8 (0 : Int))] 5 (Sl.mk (some (Addr.mk b25 0 none)) 0 0) s21 h26 fun s27 h28 =>
(apA 1 1 #[(.int .u8 (0 : Int))] 5 s27 s11 h28 fun s29 h30 =>
(∃ m8, m8 < m7 ∧ I6 s23 s29 (IntKind.wrap .i64 (x12 + (1 : Int))) m8 h30)))))) h14))))))))))) ∧
(bsel (decide (x12 < (Int.ofNat p0.len)))
(bsel (decide (x12 < (30 : Int)))
(R13 h9)
(R5 s10 s11 h9))
(R5 s10 s11 h9)))))))
def demesnelaw06_BootmapOrder_A : demesnelaw06_BootmapOrder_T := demesnelaw06_BootmapOrder_G demesnelaw06_Entry_A bootmap_Frames_A demesneref06_Same_A demesnelaw06_awake_A demesneref06_Some_A
def demesnelaw06_BootmapOrder_W (f : demesnelaw06_BootmapOrder_T) : ArS [.c .s, .agg [(.i .u64), (.i .u64), (.i .u32)], .c (.i .i64)] EnR := fun p0 p1 p2 p3 p4 K _Kp => f p0 p1 p2 p3 p4 (fun r0 => K (.bool r0))

/- demesne/demesnelaw06.BootmapKernel -/
abbrev demesnelaw06_BootmapKernel_T := Sl → Int → Int → Int → (Bool → AH → Prop) → AP
def demesnelaw06_BootmapKernel_G (f_demesnelaw06_Cut : demesnelaw06_Cut_T) (f_bootmap_Frames : bootmap_Frames_T) (f_demesnelaw06_awake : demesnelaw06_awake_T) (f_bootmap_Less : bootmap_Less_T) (f_demesneref06_Same : demesneref06_Same_T) (p0 : Sl) (p1 : Int) (p2 : Int) (p3 : Int) (Q : Bool → AH → Prop) (h : AH) : Prop :=
(f_demesnelaw06_Cut p0 (fun s1 h2 =>
(f_bootmap_Frames s1 p1 p2 p3 (fun s3 n4 h5 =>
(bsel (n4 != (0 : Int))
(f_demesnelaw06_awake (fun b6 h7 =>
(bsel b6
(Q ((Int.ofNat s3.len) == (0 : Int)) h7)
(Q false h7))) h5)
(∃ I8 : Int → Nat → AH → Prop, (∃ m9, I8 (0 : Int) m9 h5) ∧ ∀ x12 : Int, ∀ m9 h11, I8 x12 m9 h11 → 
(bsel (decide (x12 < (Int.ofNat s3.len)))
(onSome s3.a fun a13 =>
(inB x12 s3.len
(aI .i64 (Addr.add a13 (Int.toNat x12 * 2)) h11 fun n14 =>
(aI .i64 (Addr.add (Addr.add a13 (Int.toNat x12 * 2)) 1) h11 fun n15 =>
(bsel (decide (n14 < (0 : Int)))
(Q false h11)
(bsel (decide (n15 > p1))
(Q false h11)
(bsel (decide ((if p2 > n14 then p2 else n14) < (if p3 < n15 then p3 else n15)))
(Q false h11)
(∃ m10, m10 < m9 ∧ I8 (IntKind.wrap .i64 (x12 + (1 : Int))) m10 h11))))))))
(f_bootmap_Frames s1 p1 (0 : Int) (0 : Int) (fun s16 n17 h18 =>
(f_demesnelaw06_awake (fun b19 h20 =>
(bsel b19
(bsel (n17 == (0 : Int))
(newA h20 (.cells #[(.int .i64 p2), (.int .i64 p3)] 44) fun b21 h22 =>
(f_bootmap_Less s16 (Sl.mk (some (Addr.mk b21 0 none)) 1 1) (fun s23 h24 =>
(f_demesneref06_Same s23 s3 (fun b25 h26 =>
(Q b25 h26)) h24)) h22))
(Q false h20))
(Q false h20))) h18)) h11))))) h2)) h)
def demesnelaw06_BootmapKernel_A : demesnelaw06_BootmapKernel_T := demesnelaw06_BootmapKernel_G demesnelaw06_Cut_A bootmap_Frames_A demesnelaw06_awake_A bootmap_Less_A demesneref06_Same_A
def demesnelaw06_BootmapKernel_W (f : demesnelaw06_BootmapKernel_T) : ArS [.c .s, .c (.i .i64), .agg [(.i .i64), (.i .i64)]] EnR := fun p0 p1 p2 p3 K _Kp => f p0 p1 p2 p3 (fun r0 => K (.bool r0))

/- demesne/demesnelaw06.BootmapLonger -/
abbrev demesnelaw06_BootmapLonger_T := Sl → Int → Int → (Bool → AH → Prop) → AP
def demesnelaw06_BootmapLonger_G (f_demesnelaw06_Cut : demesnelaw06_Cut_T) (f_demesnelaw06_awake : demesnelaw06_awake_T) (f_bootmap_Frames : bootmap_Frames_T) (f_bootmap_Less : bootmap_Less_T) (f_demesneref06_Same : demesneref06_Same_T) (p0 : Sl) (p1 : Int) (p2 : Int) (Q : Bool → AH → Prop) (h : AH) : Prop :=
(f_demesnelaw06_Cut p0 (fun s1 h2 =>
(∃ R3 : AH → Prop, (∀ h12, R3 h12 → 
(f_bootmap_Frames s1 p1 (0 : Int) (0 : Int) (fun s13 n14 h15 =>
(f_bootmap_Frames s1 (IntKind.wrap .i64 (p1 + p2)) (0 : Int) (0 : Int) (fun s16 n17 h18 =>
(bsel (n14 != (0 : Int))
(bsel (n14 != (7 : Int))
(f_demesnelaw06_awake (fun b19 h20 =>
(bsel b19
(Q (n14 == n17) h20)
(Q false h20))) h18)
(f_demesnelaw06_awake (fun b21 h22 =>
(bsel b21
(newA h22 (.cells #[(.int .i64 p1), (.int .i64 (IntKind.wrap .i64 (p1 + p2)))] 44) fun b23 h24 =>
(f_bootmap_Less s16 (Sl.mk (some (Addr.mk b23 0 none)) 1 1) (fun s25 h26 =>
(f_demesneref06_Same s25 s13 (fun b27 h28 =>
(bsel b27
(bsel (n17 == (0 : Int))
(Q true h28)
(Q (n14 == n17) h28))
(Q false h28))) h26)) h24))
(Q false h22))) h18))
(f_demesnelaw06_awake (fun b29 h30 =>
(bsel b29
(newA h30 (.cells #[(.int .i64 p1), (.int .i64 (IntKind.wrap .i64 (p1 + p2)))] 44) fun b31 h32 =>
(f_bootmap_Less s16 (Sl.mk (some (Addr.mk b31 0 none)) 1 1) (fun s33 h34 =>
(f_demesneref06_Same s33 s13 (fun b35 h36 =>
(bsel b35
(bsel (n17 == (0 : Int))
(Q true h36)
(Q (n14 == n17) h36))
(Q false h36))) h34)) h32))
(Q false h30))) h18))) h15)) h12)) ∧
(bsel (decide (p1 < (1 : Int)))
(f_demesnelaw06_awake (fun b4 h5 =>
(Q b4 h5)) h2)
(bsel (decide (p2 < (0 : Int)))
(f_demesnelaw06_awake (fun b6 h7 =>
(Q b6 h7)) h2)
(bsel (decide (p2 > (524288 : Int)))
(f_demesnelaw06_awake (fun b8 h9 =>
(Q b8 h9)) h2)
(bsel (decide (p1 > (524288 : Int)))
(f_demesnelaw06_awake (fun b10 h11 =>
(Q b10 h11)) h2)
(R3 h2))))))) h)
def demesnelaw06_BootmapLonger_A : demesnelaw06_BootmapLonger_T := demesnelaw06_BootmapLonger_G demesnelaw06_Cut_A demesnelaw06_awake_A bootmap_Frames_A bootmap_Less_A demesneref06_Same_A
def demesnelaw06_BootmapLonger_W (f : demesnelaw06_BootmapLonger_T) : ArS [.c .s, .c (.i .i64), .c (.i .i64)] EnR := fun p0 p1 p2 K _Kp => f p0 p1 p2 (fun r0 => K (.bool r0))

end Go.Dn
