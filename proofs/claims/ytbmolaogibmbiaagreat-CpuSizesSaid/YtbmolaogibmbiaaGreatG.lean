/- Printed by gen3.py: what each function does, as a predicate over a part of the heap. -/
import Derived.Test.YtbmolaogibmbiaaGreatDnY
import Derived.Test.YtbmolaogibmbiaaGreatParseD
import Derived.Test.YtbmolaogibmbiaaGreatDnZ
import Derived.Test.YtbmolaogibmbiaaGreatDnO
namespace Go.Dn

abbrev ty_walk_stop : Nat := 243
/- demesne/demesnelaw06.Entry -/
abbrev demesnelaw06_Entry_T := Int → Int → Int → (Sl → AH → Prop) → AP
def demesnelaw06_Entry_A (p0 : Int) (p1 : Int) (p2 : Int) (Q : Sl → AH → Prop) (h : AH) : Prop :=
(newA h (.cells (madeCells #[(.int .u8 (0 : Int))] (20 * 1)) 5) fun b1 h2 =>
(∃ I3 : Int → Nat → AH → Prop, (∃ m4, I3 (0 : Int) m4 h2) ∧ ∀ x7 : Int, ∀ m4 h6, I3 x7 m4 h6 → 
(bsel (decide (x7 < (8 : Int)))
(bsel (decide ((IntKind.wrap .i64 ((8 : Int) * x7)) < 0)) False
(inB x7 20
(aC (Addr.add (Addr.mk b1 0 none) (Int.toNat x7 * 1)) (.int .u8 (IntKind.wrap .u8 (Int.fdiv p0 (2 ^ (min (Int.toNat (IntKind.wrap .i64 ((8 : Int) * x7))) 64))))) h6 fun h8 =>
(bsel (decide ((IntKind.wrap .i64 ((8 : Int) * x7)) < 0)) False
(inB (IntKind.wrap .i64 ((8 : Int) + x7)) 20
(aC (Addr.add (Addr.mk b1 0 none) (Int.toNat (IntKind.wrap .i64 ((8 : Int) + x7)) * 1)) (.int .u8 (IntKind.wrap .u8 (Int.fdiv p1 (2 ^ (min (Int.toNat (IntKind.wrap .i64 ((8 : Int) * x7))) 64))))) h8 fun h9 =>
(∃ m5, m5 < m4 ∧ I3 (IntKind.wrap .i64 (x7 + (1 : Int))) m5 h9)))))))
(∃ I10 : Int → Nat → AH → Prop, (∃ m11, I10 (0 : Int) m11 h6) ∧ ∀ x14 : Int, ∀ m11 h13, I10 x14 m11 h13 → 
(bsel (decide (x14 < (4 : Int)))
(bsel (decide ((IntKind.wrap .i64 ((8 : Int) * x14)) < 0)) False
(inB (IntKind.wrap .i64 ((16 : Int) + x14)) 20
(aC (Addr.add (Addr.mk b1 0 none) (Int.toNat (IntKind.wrap .i64 ((16 : Int) + x14)) * 1)) (.int .u8 (IntKind.wrap .u8 (Int.fdiv p2 (2 ^ (min (Int.toNat (IntKind.wrap .i64 ((8 : Int) * x14))) 32))))) h13 fun h15 =>
(∃ m12, m12 < m11 ∧ I10 (IntKind.wrap .i64 (x14 + (1 : Int))) m12 h15))))
(Q (Sl.mk (some (Addr.mk b1 0 none)) 20 20) h13))))))
def demesnelaw06_Entry_W (f : demesnelaw06_Entry_T) : ArS [.c (.i .u64), .c (.i .u64), .c (.i .u32)] EnR := fun p0 p1 p2 K _Kp => f p0 p1 p2 (fun r0 => K (.slice r0.a r0.len r0.cap))

/- demesne/demesnelaw12.Plain -/
abbrev demesnelaw12_Plain_T := Int → Int → (Int → Int → Int → Int → Sl → AH → Prop) → AP
def demesnelaw12_Plain_G (f_demesnelaw06_Entry : demesnelaw06_Entry_T) (p0 : Int) (p1 : Int) (Q : Int → Int → Int → Int → Sl → AH → Prop) (h : AH) : Prop :=
(f_demesnelaw06_Entry (0 : Int) (IntKind.wrap .u64 ((IntKind.wrap .u64 p0) * (4096 : Int))) (1 : Int) (fun s1 h2 =>
(Q p0 (0 : Int) (1 : Int) p1 s1 h2)) h)
def demesnelaw12_Plain_A : demesnelaw12_Plain_T := demesnelaw12_Plain_G demesnelaw06_Entry_A
def demesnelaw12_Plain_W (f : demesnelaw12_Plain_T) : ArS [.c (.i .i64), .c (.i .i64)] EnR := fun p0 p1 K _Kp => f p0 p1 (fun r0 r1 r2 r3 r4 => K (.agg #[(.int .i64 r0), (.int .i64 r1), (.int .i64 r2), (.int .i64 r3), (.slice r4.a r4.len r4.cap)]))

/- demesne/bootmap.Parse: by the kit -/
abbrev bootmap_Parse_T := Sl → (Sl → Int → AH → Prop) → AP
def bootmap_Parse_A : bootmap_Parse_T := paA 306
def bootmap_Parse_W (f : bootmap_Parse_T) : ArS [.c .s] EnR := fun p0 K _Kp => f p0 (fun r0 r1 => K (.tuple #[.slice r0.a r0.len r0.cap, .int .i64 r1]))

/- (demesne/bootmap.Area).frames -/
abbrev bootmap_Area_frames_T := Int → Int → Int → Int → (Int → Int → AH → Prop) → AP
def bootmap_Area_frames_A (p0 : Int) (p1 : Int) (p2 : Int) (p3 : Int) (Q : Int → Int → AH → Prop) (h : AH) : Prop :=
(∃ R1 : Int → Int → AH → Prop, (∀ x2 : Int, ∀ x3 : Int, ∀ h4, R1 x2 x3 h4 → 
(∃ R5 : Int → AH → Prop, (∀ x6 : Int, ∀ h7, R5 x6 h7 → 
(Q ((IntKind.wrap .i64 (if (IntKind.wrap .u64 p3) < x2 then (IntKind.wrap .u64 p3) else x2)) : Int) ((IntKind.wrap .i64 (if (IntKind.wrap .u64 p3) < x6 then (IntKind.wrap .u64 p3) else x6)) : Int) h7)) ∧
(bsel (p1 == (0 : Int))
(R5 x2 h4)
(R5 x3 h4)))) ∧
(bsel (p2 == (1 : Int))
(bsel ((Int.tmod p0 (4096 : Int)) != (0 : Int))
(R1 (IntKind.wrap .u64 ((IntKind.wrap .u64 (Int.tdiv p0 (4096 : Int))) + (1 : Int))) (IntKind.wrap .u64 (Int.tdiv (IntKind.wrap .u64 (p0 + p1)) (4096 : Int))) h)
(R1 (IntKind.wrap .u64 (Int.tdiv p0 (4096 : Int))) (IntKind.wrap .u64 (Int.tdiv (IntKind.wrap .u64 (p0 + p1)) (4096 : Int))) h))
(bsel ((Int.tmod (IntKind.wrap .u64 (p0 + p1)) (4096 : Int)) != (0 : Int))
(R1 (IntKind.wrap .u64 (Int.tdiv p0 (4096 : Int))) (IntKind.wrap .u64 ((IntKind.wrap .u64 (Int.tdiv (IntKind.wrap .u64 (p0 + p1)) (4096 : Int))) + (1 : Int))) h)
(R1 (IntKind.wrap .u64 (Int.tdiv p0 (4096 : Int))) (IntKind.wrap .u64 (Int.tdiv (IntKind.wrap .u64 (p0 + p1)) (4096 : Int))) h))))
def bootmap_Area_frames_W (f : bootmap_Area_frames_T) : ArS [.agg [(.i .u64), (.i .u64), (.i .u32)], .c (.i .i64)] EnR := fun p0 p1 p2 p3 K _Kp => f p0 p1 p2 p3 (fun r0 r1 => K (.agg #[(.int .i64 r0), (.int .i64 r1)]))

/- slices.Clone[[]demesne/api.Range,demesne/api.Range] -/
abbrev slices_Clone_api_Range_api_Range_T := Sl → (Sl → AH → Prop) → AP
def slices_Clone_api_Range_api_Range_A (p0 : Sl) (Q : Sl → AH → Prop) (h : AH) : Prop :=
(bsel (Option.isNone p0.a)
(Q Sl.nil h)
(newA h (.cells #[] 43) fun b1 h2 =>
(apA 2 16 #[(.int .i64 (0 : Int)), (.int .i64 (0 : Int))] 43 (Sl.mk (some (Addr.mk b1 0 none)) 0 0) p0 h2 fun s3 h4 =>
(Q s3 h4))))
def slices_Clone_api_Range_api_Range_W (f : slices_Clone_api_Range_api_Range_T) : ArS [.c .s] EnR := fun p0 K _Kp => f p0 (fun r0 => K (.slice r0.a r0.len r0.cap))

/- demesne/bootmap.Merge$1 -/
abbrev bootmap_Merge_1_T := Int → Int → (Bool → AH → Prop) → AP
def bootmap_Merge_1_A (p0 : Int) (p1 : Int) (Q : Bool → AH → Prop) (h : AH) : Prop :=
(Q (decide (p1 ≤ p0)) h)
def bootmap_Merge_1_W (f : bootmap_Merge_1_T) : ArS [.agg [(.i .i64), (.i .i64)]] EnR := fun p0 p1 K _Kp => f p0 p1 (fun r0 => K (.bool r0))

/- slices.IndexFunc[[]demesne/api.Range,demesne/api.Range] -/
abbrev slices_IndexFunc_api_Range_api_Range_T := Sl → (Int → AH → Prop) → AP
def slices_IndexFunc_api_Range_api_Range_G (f_bootmap_Merge_1 : bootmap_Merge_1_T) (p0 : Sl) (Q : Int → AH → Prop) (h : AH) : Prop :=
(∃ I1 : Int → Nat → AH → Prop, (∃ m2, I1 (0 : Int) m2 h) ∧ ∀ x5 : Int, ∀ m2 h4, I1 x5 m2 h4 → 
(bsel (decide (x5 < (Int.ofNat p0.len)))
(onSome p0.a fun a6 =>
(inB x5 p0.len
(aI .i64 (Addr.add a6 (Int.toNat x5 * 2)) h4 fun n7 =>
(aI .i64 (Addr.add (Addr.add a6 (Int.toNat x5 * 2)) 1) h4 fun n8 =>
(f_bootmap_Merge_1 n7 n8 (fun b9 h10 =>
(bsel b9
(Q x5 h10)
(∃ m3, m3 < m2 ∧ I1 (IntKind.wrap .i64 (x5 + (1 : Int))) m3 h10))) h4)))))
(Q (-1 : Int) h4)))
def slices_IndexFunc_api_Range_api_Range_A : slices_IndexFunc_api_Range_api_Range_T := slices_IndexFunc_api_Range_api_Range_G bootmap_Merge_1_A
def slices_IndexFunc_api_Range_api_Range_W (f : slices_IndexFunc_api_Range_api_Range_T) : ArS [.c .s, .fn 224 [] []] EnR := fun p0 K _Kp => f p0 (fun r0 => K (.int .i64 r0))

/- slices.DeleteFunc[[]demesne/api.Range,demesne/api.Range] -/
abbrev slices_DeleteFunc_api_Range_api_Range_T := Sl → (Sl → AH → Prop) → AP
def slices_DeleteFunc_api_Range_api_Range_G (f_slices_IndexFunc_api_Range_api_Range : slices_IndexFunc_api_Range_api_Range_T) (f_bootmap_Merge_1 : bootmap_Merge_1_T) (p0 : Sl) (Q : Sl → AH → Prop) (h : AH) : Prop :=
(f_slices_IndexFunc_api_Range_api_Range p0 (fun n1 h2 =>
(bsel (n1 == (-1 : Int))
(Q p0 h2)
(∃ I3 : Int → Int → Nat → AH → Prop, (∃ m4, I3 n1 (IntKind.wrap .i64 (n1 + (1 : Int))) m4 h2) ∧ ∀ x7 : Int, ∀ x8 : Int, ∀ m4 h6, I3 x7 x8 m4 h6 → 
(bsel (decide (x8 < (Int.ofNat p0.len)))
(∃ R9 : Int → AH → Prop, (∀ x18 : Int, ∀ h19, R9 x18 h19 → 
(∃ m5, m5 < m4 ∧ I3 x18 (IntKind.wrap .i64 (x8 + (1 : Int))) m5 h19)) ∧
(onSome p0.a fun a10 =>
(inB x8 p0.len
(aI .i64 (Addr.add a10 (Int.toNat x8 * 2)) h6 fun n11 =>
(aI .i64 (Addr.add (Addr.add a10 (Int.toNat x8 * 2)) 1) h6 fun n12 =>
(f_bootmap_Merge_1 n11 n12 (fun b13 h14 =>
(bsel (!b13)
(onSome p0.a fun a15 =>
(inB x7 p0.len
(aC (Addr.add a15 (Int.toNat x7 * 2)) (.int .i64 n11) h14 fun h16 =>
(aC (Addr.add (Addr.add a15 (Int.toNat x7 * 2)) 1) (.int .i64 n12) h16 fun h17 =>
(R9 (IntKind.wrap .i64 (x7 + (1 : Int))) h17)))))
(R9 x7 h14))) h6))))))
(inB x7 (p0.len + 1)
(clrA #[(.int .i64 (0 : Int)), (.int .i64 (0 : Int))] (Sl.mk (if p0.cap = (Int.toNat x7) then p0.a else Option.map (fun x => Addr.add x ((Int.toNat x7) * 2)) p0.a) (p0.len - (Int.toNat x7)) (p0.cap - (Int.toNat x7))) h6 fun h20 =>
(inB x7 (p0.cap + 1)
(Q (Sl.mk (if p0.cap = 0 then p0.a else Option.map (fun x => Addr.add x (0 * 2)) p0.a) (Int.toNat x7) p0.cap) h20)))))))) h)
def slices_DeleteFunc_api_Range_api_Range_A : slices_DeleteFunc_api_Range_api_Range_T := slices_DeleteFunc_api_Range_api_Range_G slices_IndexFunc_api_Range_api_Range_A bootmap_Merge_1_A
def slices_DeleteFunc_api_Range_api_Range_W (f : slices_DeleteFunc_api_Range_api_Range_T) : ArS [.c .s, .fn 224 [] []] EnR := fun p0 K _Kp => f p0 (fun r0 => K (.slice r0.a r0.len r0.cap))

/- slices.SortFunc[[]demesne/api.Range,demesne/api.Range]: by the kit -/
abbrev slices_SortFunc_api_Range_api_Range_T := Sl → AP → AP
def slices_SortFunc_api_Range_api_Range_A : slices_SortFunc_api_Range_api_Range_T := soA rgE (Go.Proofs.ltOf rgCf) 2
def slices_SortFunc_api_Range_api_Range_W (f : slices_SortFunc_api_Range_api_Range_T) : ArS [.c .s, .fn 226 [] []] EnR := fun p0 K _Kp => f p0 (K (.tuple #[]))

/- demesne/bootmap.Merge -/
abbrev bootmap_Merge_T := Sl → (Sl → AH → Prop) → AP
def bootmap_Merge_G (f_slices_Clone_api_Range_api_Range : slices_Clone_api_Range_api_Range_T) (f_slices_DeleteFunc_api_Range_api_Range : slices_DeleteFunc_api_Range_api_Range_T) (f_slices_SortFunc_api_Range_api_Range : slices_SortFunc_api_Range_api_Range_T) (p0 : Sl) (Q : Sl → AH → Prop) (h : AH) : Prop :=
(f_slices_Clone_api_Range_api_Range p0 (fun s1 h2 =>
(f_slices_DeleteFunc_api_Range_api_Range s1 (fun s3 h4 =>
(f_slices_SortFunc_api_Range_api_Range s3 (fun h5 =>
(∃ I6 : Sl → Int → Nat → AH → Prop, (∃ m7, I6 Sl.nil (0 : Int) m7 h5) ∧ ∀ s10 : Sl, ∀ x11 : Int, ∀ m7 h9, I6 s10 x11 m7 h9 → 
(bsel (decide (x11 < (Int.ofNat s3.len)))
(∃ R12 : Sl → AH → Prop, (∀ s29 : Sl, ∀ h30, R12 s29 h30 → 
(∃ m8, m8 < m7 ∧ I6 s29 (IntKind.wrap .i64 (x11 + (1 : Int))) m8 h30)) ∧
(onSome s3.a fun a13 =>
(inB x11 s3.len
(aI .i64 (Addr.add a13 (Int.toNat x11 * 2)) h9 fun n14 =>
(aI .i64 (Addr.add (Addr.add a13 (Int.toNat x11 * 2)) 1) h9 fun n15 =>
(∃ R16 : Bool → AH → Prop, (∀ b19 : Bool, ∀ h20, R16 b19 h20 → 
(bsel b19
(onSome s10.a fun a21 =>
(inB (IntKind.wrap .i64 ((Int.ofNat s10.len) - (1 : Int))) s10.len
(aI .i64 (Addr.add (Addr.add a21 (Int.toNat (IntKind.wrap .i64 ((Int.ofNat s10.len) - (1 : Int))) * 2)) 1) h20 fun n22 =>
(onSome s10.a fun a23 =>
(inB (IntKind.wrap .i64 ((Int.ofNat s10.len) - (1 : Int))) s10.len
(aC (Addr.add (Addr.add a23 (Int.toNat (IntKind.wrap .i64 ((Int.ofNat s10.len) - (1 : Int))) * 2)) 1) (.int .i64 (if n15 > n22 then n15 else n22)) h20 fun h24 =>
(R12 s10 h24)))))))
(newA h20 (.cells #[(.int .i64 n14), (.int .i64 n15)] 43) fun b25 h26 =>
(apA 2 16 #[(.int .i64 (0 : Int)), (.int .i64 (0 : Int))] 43 s10 (Sl.mk (some (Addr.mk b25 0 none)) 1 1) h26 fun s27 h28 =>
(R12 s27 h28))))) ∧
(bsel (decide ((Int.ofNat s10.len) > (0 : Int)))
(onSome s10.a fun a17 =>
(inB (IntKind.wrap .i64 ((Int.ofNat s10.len) - (1 : Int))) s10.len
(aI .i64 (Addr.add (Addr.add a17 (Int.toNat (IntKind.wrap .i64 ((Int.ofNat s10.len) - (1 : Int))) * 2)) 1) h9 fun n18 =>
(R16 (decide (n14 ≤ n18)) h9))))
(R16 false h9))))))))
(Q s10 h9)))) h4)) h2)) h)
def bootmap_Merge_A : bootmap_Merge_T := bootmap_Merge_G slices_Clone_api_Range_api_Range_A slices_DeleteFunc_api_Range_api_Range_A slices_SortFunc_api_Range_api_Range_A
def bootmap_Merge_W (f : bootmap_Merge_T) : ArS [.c .s] EnR := fun p0 K _Kp => f p0 (fun r0 => K (.slice r0.a r0.len r0.cap))

/- demesne/bootmap.Less -/
abbrev bootmap_Less_T := Sl → Sl → (Sl → AH → Prop) → AP
def bootmap_Less_G (f_bootmap_Merge : bootmap_Merge_T) (p0 : Sl) (p1 : Sl) (Q : Sl → AH → Prop) (h : AH) : Prop :=
(f_bootmap_Merge p1 (fun s1 h2 =>
(f_bootmap_Merge p0 (fun s3 h4 =>
(∃ I5 : Sl → Int → Nat → AH → Prop, (∃ m6, I5 Sl.nil (0 : Int) m6 h4) ∧ ∀ s9 : Sl, ∀ x10 : Int, ∀ m6 h8, I5 s9 x10 m6 h8 → 
(bsel (decide (x10 < (Int.ofNat s3.len)))
(∃ R11 : Sl → AH → Prop, (∀ s40 : Sl, ∀ h41, R11 s40 h41 → 
(∃ m7, m7 < m6 ∧ I5 s40 (IntKind.wrap .i64 (x10 + (1 : Int))) m7 h41)) ∧
(onSome s3.a fun a12 =>
(inB x10 s3.len
(aI .i64 (Addr.add a12 (Int.toNat x10 * 2)) h8 fun n13 =>
(aI .i64 (Addr.add (Addr.add a12 (Int.toNat x10 * 2)) 1) h8 fun n14 =>
(∃ I15 : Sl → Int → Int → Nat → AH → Prop, (∃ m16, I15 s9 n13 (0 : Int) m16 h8) ∧ ∀ s19 : Sl, ∀ x20 : Int, ∀ x21 : Int, ∀ m16 h18, I15 s19 x20 x21 m16 h18 → 
(bsel (decide (x21 < (Int.ofNat s1.len)))
(∃ R22 : Sl → Int → AH → Prop, (∀ s33 : Sl, ∀ x34 : Int, ∀ h35, R22 s33 x34 h35 → 
(∃ m17, m17 < m16 ∧ I15 s33 x34 (IntKind.wrap .i64 (x21 + (1 : Int))) m17 h35)) ∧
(onSome s1.a fun a23 =>
(inB x21 s1.len
(aI .i64 (Addr.add a23 (Int.toNat x21 * 2)) h18 fun n24 =>
(aI .i64 (Addr.add (Addr.add a23 (Int.toNat x21 * 2)) 1) h18 fun n25 =>
(bsel (decide (n25 ≤ x20))
(R22 s19 x20 h18)
(bsel (decide (n24 ≥ n14))
(R22 s19 x20 h18)
(∃ R26 : Sl → AH → Prop, (∀ s31 : Sl, ∀ h32, R26 s31 h32 → 
(R22 s31 (if n25 > x20 then n25 else x20) h32)) ∧
(bsel (decide (n24 > x20))
(newA h18 (.cells #[(.int .i64 x20), (.int .i64 n24)] 43) fun b27 h28 =>
(apA 2 16 #[(.int .i64 (0 : Int)), (.int .i64 (0 : Int))] 43 s19 (Sl.mk (some (Addr.mk b27 0 none)) 1 1) h28 fun s29 h30 =>
(R26 s29 h30)))
(R26 s19 h18))))))))))
(bsel (decide (x20 < n14))
(newA h18 (.cells #[(.int .i64 x20), (.int .i64 n14)] 43) fun b36 h37 =>
(apA 2 16 #[(.int .i64 (0 : Int)), (.int .i64 (0 : Int))] 43 s19 (Sl.mk (some (Addr.mk b36 0 none)) 1 1) h37 fun s38 h39 =>
(R11 s38 h39)))
(R11 s19 h18)))))))))
(Q s9 h8)))) h2)) h)
def bootmap_Less_A : bootmap_Less_T := bootmap_Less_G bootmap_Merge_A
def bootmap_Less_W (f : bootmap_Less_T) : ArS [.c .s, .c .s] EnR := fun p0 p1 K _Kp => f p0 p1 (fun r0 => K (.slice r0.a r0.len r0.cap))

/- demesne/bootmap.Frames -/
abbrev bootmap_Frames_T := Sl → Int → Int → Int → (Sl → Int → AH → Prop) → AP
def bootmap_Frames_G (f_bootmap_Parse : bootmap_Parse_T) (f_bootmap_Area_frames : bootmap_Area_frames_T) (f_bootmap_Less : bootmap_Less_T) (p0 : Sl) (p1 : Int) (p2 : Int) (p3 : Int) (Q : Sl → Int → AH → Prop) (h : AH) : Prop :=
(∃ R1 : AH → Prop, (∀ h2, R1 h2 → 
(f_bootmap_Parse p0 (fun s3 n4 h5 =>
(bsel (n4 != (0 : Int))
(Q Sl.nil n4 h5)
(newA h5 (.cells #[(.int .i64 p2), (.int .i64 p3)] 43) fun b6 h7 =>
(∃ I8 : Sl → Sl → Int → Nat → AH → Prop, (∃ m9, I8 Sl.nil (Sl.mk (some (Addr.mk b6 0 none)) 1 1) (0 : Int) m9 h7) ∧ ∀ s12 : Sl, ∀ s13 : Sl, ∀ x14 : Int, ∀ m9 h11, I8 s12 s13 x14 m9 h11 → 
(bsel (decide (x14 < (Int.ofNat s3.len)))
(∃ R15 : Sl → Sl → AH → Prop, (∀ s31 : Sl, ∀ s32 : Sl, ∀ h33, R15 s31 s32 h33 → 
(∃ m10, m10 < m9 ∧ I8 s31 s32 (IntKind.wrap .i64 (x14 + (1 : Int))) m10 h33)) ∧
(onSome s3.a fun a16 =>
(inB x14 s3.len
(aI .u64 (Addr.add a16 (Int.toNat x14 * 3)) h11 fun n17 =>
(aI .u64 (Addr.add (Addr.add a16 (Int.toNat x14 * 3)) 1) h11 fun n18 =>
(aI .u32 (Addr.add (Addr.add a16 (Int.toNat x14 * 3)) 2) h11 fun n19 =>
(f_bootmap_Area_frames n17 n18 n19 p1 (fun n20 n21 h22 =>
(bsel (n19 == (1 : Int))
(newA h22 (.cells #[(.int .i64 n20), (.int .i64 n21)] 43) fun b23 h24 =>
(apA 2 16 #[(.int .i64 (0 : Int)), (.int .i64 (0 : Int))] 43 s12 (Sl.mk (some (Addr.mk b23 0 none)) 1 1) h24 fun s25 h26 =>
(R15 s25 s13 h26)))
(newA h22 (.cells #[(.int .i64 n20), (.int .i64 n21)] 43) fun b27 h28 =>
(apA 2 16 #[(.int .i64 (0 : Int)), (.int .i64 (0 : Int))] 43 s13 (Sl.mk (some (Addr.mk b27 0 none)) 1 1) h28 fun s29 h30 =>
(R15 s12 s29 h30))))) h11)))))))
(f_bootmap_Less s12 s13 (fun s34 h35 =>
(bsel ((Int.ofNat s34.len) == (0 : Int))
(Q Sl.nil (7 : Int) h35)
(Q s34 (0 : Int) h35))) h11)))))) h2)) ∧
(bsel (decide (p1 < (1 : Int)))
(Q Sl.nil (1 : Int) h)
(bsel (decide (p1 > (1048576 : Int)))
(Q Sl.nil (1 : Int) h)
(bsel (decide (p2 < (0 : Int)))
(Q Sl.nil (1 : Int) h)
(bsel (decide (p3 < p2))
(Q Sl.nil (1 : Int) h)
(bsel (decide (p3 > p1))
(Q Sl.nil (1 : Int) h)
(R1 h)))))))
def bootmap_Frames_A : bootmap_Frames_T := bootmap_Frames_G bootmap_Parse_A bootmap_Area_frames_A bootmap_Less_A
def bootmap_Frames_W (f : bootmap_Frames_T) : ArS [.c .s, .c (.i .i64), .agg [(.i .i64), (.i .i64)]] EnR := fun p0 p1 p2 p3 K _Kp => f p0 p1 p2 p3 (fun r0 r1 => K (.tuple #[(.slice r0.a r0.len r0.cap), (.int .i64 r1)]))

/- (*demesne/pcid.Tags).begin -/
abbrev pcid_Tags_begin_T := Option Addr → (AH → Prop) → AP
def pcid_Tags_begin_A (p0 : Option Addr) (Q : AH → Prop) (h : AH) : Prop :=
(newA h (.map #[] 0) fun b1 h2 =>
(newA h2 (.map #[] 0) fun b3 h4 =>
(onSome p0 fun a5 =>
(aC (Addr.add a5 1) (.int .i64 (1 : Int)) h4 fun h6 =>
(onSome p0 fun a7 =>
(aC (Addr.add a7 3) (.map (some b1)) h6 fun h8 =>
(onSome p0 fun a9 =>
(aC (Addr.add a9 4) (.map (some b3)) h8 fun h10 =>
(Q h10)))))))))
def pcid_Tags_begin_W (f : pcid_Tags_begin_T) : ArS [.c .p] EnR := fun p0 K _Kp => f p0 (K (.tuple #[]))

/- demesne/pcid.New -/
abbrev pcid_New_T := Int → (Option Addr → Int → AH → Prop) → AP
def pcid_New_G (f_pcid_Tags_begin : pcid_Tags_begin_T) (p0 : Int) (Q : Option Addr → Int → AH → Prop) (h : AH) : Prop :=
(bsel (decide (p0 < (1 : Int)))
(Q none (1 : Int) h)
(bsel (decide (p0 > (4095 : Int)))
(Q none (1 : Int) h)
(newA h (.cells #[(.int .i64 p0), (.int .i64 (0 : Int)), (.int .i64 (0 : Int)), (.map none), (.map none)] 185) fun b1 h2 =>
(f_pcid_Tags_begin (some (Addr.mk b1 0 none)) (fun h3 =>
(Q (some (Addr.mk b1 0 none)) (0 : Int) h3)) h2))))
def pcid_New_A : pcid_New_T := pcid_New_G pcid_Tags_begin_A
def pcid_New_W (f : pcid_New_T) : ArS [.c (.i .i64)] EnR := fun p0 K _Kp => f p0 (fun r0 r1 => K (.tuple #[(.pointer r0), (.int .i64 r1)]))

/- demesne/ram.New -/
abbrev ram_New_T := Int → Sl → (Option Addr → Int → AH → Prop) → AP
def ram_New_A (p0 : Int) (p1 : Sl) (Q : Option Addr → Int → AH → Prop) (h : AH) : Prop :=
(bsel (decide (p0 < (1 : Int)))
(Q none (1 : Int) h)
(∃ R1 : AH → Prop, (∀ h2, R1 h2 → 
(∃ I3 : Int → Nat → AH → Prop, (∃ m4, I3 (0 : Int) m4 h2) ∧ ∀ x7 : Int, ∀ m4 h6, I3 x7 m4 h6 → 
(bsel (decide (x7 < (Int.ofNat p1.len)))
(onSome p1.a fun a8 =>
(inB x7 p1.len
(aI .i64 (Addr.add a8 (Int.toNat x7 * 2)) h6 fun n9 =>
(aI .i64 (Addr.add (Addr.add a8 (Int.toNat x7 * 2)) 1) h6 fun n10 =>
(bsel (decide (n9 < (0 : Int)))
(Q none (3 : Int) h6)
(bsel (decide (n10 < n9))
(Q none (3 : Int) h6)
(bsel (decide (n10 > p0))
(Q none (3 : Int) h6)
(∃ m5, m5 < m4 ∧ I3 (IntKind.wrap .i64 (x7 + (1 : Int))) m5 h6))))))))
(apA 2 16 #[(.int .i64 (0 : Int)), (.int .i64 (0 : Int))] 43 Sl.nil p1 h6 fun s11 h12 =>
(newA h12 (.map #[] 0) fun b13 h14 =>
(newA h14 (.cells #[(.int .i64 p0), (.slice s11.a s11.len s11.cap), (.map (some b13))] 169) fun b15 h16 =>
(Q (some (Addr.mk b15 0 none)) (0 : Int) h16))))))) ∧
(bsel (decide (p0 > (1048576 : Int)))
(Q none (4 : Int) h)
(bsel (decide ((Int.ofNat p1.len) > (64 : Int)))
(Q none (4 : Int) h)
(R1 h)))))
def ram_New_W (f : ram_New_T) : ArS [.c (.i .i64), .c .s] EnR := fun p0 p1 K _Kp => f p0 p1 (fun r0 r1 => K (.tuple #[(.pointer r0), (.int .i64 r1)]))

/- (*demesne/buddy.Buddy).add -/
abbrev buddy_Buddy_add_T := Option Addr → Int → Int → (AH → Prop) → AP
def buddy_Buddy_add_A (p0 : Option Addr) (p1 : Int) (p2 : Int) (Q : AH → Prop) (h : AH) : Prop :=
(∃ I1 : Int → Int → Nat → AH → Prop, (∃ m2, I1 p1 p2 m2 h) ∧ ∀ x5 : Int, ∀ x6 : Int, ∀ m2 h4, I1 x5 x6 m2 h4 → 
(bsel (decide (x6 < (10 : Int)))
(onSome p0 fun a7 =>
(inB x6 11
(aM (Addr.add a7 (Int.toNat x6 * 1)) h4 fun mp8 =>
(bsel (decide (x6 < 0)) False
(aLk h4 mp8 .i64 (bits .xor .i64 x5 (IntKind.wrap .i64 ((1 : Int) * 2 ^ (min (Int.toNat x6) 64)))) fun o9 =>
(∃ b10 : Bool, ((o9.getD (.bool false)) : Value) = (.bool b10) ∧
(bsel b10
(onSome p0 fun a11 =>
(inB x6 11
(aM (Addr.add a11 (Int.toNat x6 * 1)) h4 fun mp12 =>
(bsel (decide (x6 < 0)) False
(aMDl h4 mp12 .i64 (bits .xor .i64 x5 (IntKind.wrap .i64 ((1 : Int) * 2 ^ (min (Int.toNat x6) 64)))) fun h13 =>
(bsel (decide (x6 < 0)) False
(∃ m3, m3 < m2 ∧ I1 (bits .andNot .i64 x5 (IntKind.wrap .i64 ((1 : Int) * 2 ^ (min (Int.toNat x6) 64)))) (IntKind.wrap .i64 (x6 + (1 : Int))) m3 h13)))))))
(onSome p0 fun a14 =>
(inB x6 11
(aM (Addr.add a14 (Int.toNat x6 * 1)) h4 fun mp15 =>
(aMSt h4 mp15 .i64 x5 (.bool true) fun h16 =>
(Q h16))))))))))))
(onSome p0 fun a17 =>
(inB x6 11
(aM (Addr.add a17 (Int.toNat x6 * 1)) h4 fun mp18 =>
(aMSt h4 mp18 .i64 x5 (.bool true) fun h19 =>
(Q h19)))))))
def buddy_Buddy_add_W (f : buddy_Buddy_add_T) : ArS [.c .p, .c (.i .i64), .c (.i .i64)] EnR := fun p0 p1 p2 K _Kp => f p0 p1 p2 (K (.tuple #[]))

/- demesne/buddy.New -/
abbrev buddy_New_T := Sl → (Option Addr → Int → AH → Prop) → AP
def buddy_New_G (f_buddy_Buddy_add : buddy_Buddy_add_T) (p0 : Sl) (Q : Option Addr → Int → AH → Prop) (h : AH) : Prop :=
(bsel (decide ((Int.ofNat p0.len) > (64 : Int)))
(Q none (4 : Int) h)
(∃ I1 : Int → Int → Nat → AH → Prop, (∃ m2, I1 (0 : Int) (0 : Int) m2 h) ∧ ∀ x5 : Int, ∀ x6 : Int, ∀ m2 h4, I1 x5 x6 m2 h4 → 
(bsel (decide (x6 < (Int.ofNat p0.len)))
(onSome p0.a fun a7 =>
(inB x6 p0.len
(aI .i64 (Addr.add a7 (Int.toNat x6 * 2)) h4 fun n8 =>
(aI .i64 (Addr.add (Addr.add a7 (Int.toNat x6 * 2)) 1) h4 fun n9 =>
(bsel (decide (n8 < x5))
(Q none (3 : Int) h4)
(bsel (decide (n9 ≤ n8))
(Q none (3 : Int) h4)
(bsel (decide (n9 > (1048576 : Int)))
(Q none (3 : Int) h4)
(∃ m3, m3 < m2 ∧ I1 n9 (IntKind.wrap .i64 (x6 + (1 : Int))) m3 h4))))))))
(newA h4 (.map #[] 0) fun b10 h11 =>
(newA h11 (.cells #[(.map none), (.map none), (.map none), (.map none), (.map none), (.map none), (.map none), (.map none), (.map none), (.map none), (.map none), (.map (some b10)), (.int .i64 (0 : Int))] 301) fun b12 h13 =>
(∃ I14 : Int → Nat → AH → Prop, (∃ m15, I14 (0 : Int) m15 h13) ∧ ∀ x18 : Int, ∀ m15 h17, I14 x18 m15 h17 → 
(bsel (decide (x18 < (11 : Int)))
(newA h17 (.map #[] 0) fun b19 h20 =>
(inB x18 11
(aC (Addr.add (Addr.mk b12 0 none) (Int.toNat x18 * 1)) (.map (some b19)) h20 fun h21 =>
(∃ m16, m16 < m15 ∧ I14 (IntKind.wrap .i64 (x18 + (1 : Int))) m16 h21))))
(∃ I22 : Int → Nat → AH → Prop, (∃ m23, I22 (0 : Int) m23 h17) ∧ ∀ x26 : Int, ∀ m23 h25, I22 x26 m23 h25 → 
(bsel (decide (x26 < (Int.ofNat p0.len)))
(onSome p0.a fun a27 =>
(inB x26 p0.len
(aI .i64 (Addr.add a27 (Int.toNat x26 * 2)) h25 fun n28 =>
(aI .i64 (Addr.add (Addr.add a27 (Int.toNat x26 * 2)) 1) h25 fun n29 =>
(∃ I30 : Int → Nat → AH → Prop, (∃ m31, I30 n28 m31 h25) ∧ ∀ x34 : Int, ∀ m31 h33, I30 x34 m31 h33 → 
(bsel (decide (x34 < n29))
(∃ I35 : Int → Nat → AH → Prop, (∃ m36, I35 (0 : Int) m36 h33) ∧ ∀ x39 : Int, ∀ m36 h38, I35 x39 m36 h38 → 
(bsel (decide (x39 < (10 : Int)))
(bsel (decide (x39 < 0)) False
(bsel ((bits .and .i64 x34 (IntKind.wrap .i64 ((1 : Int) * 2 ^ (min (Int.toNat x39) 64)))) == (0 : Int))
(bsel (decide (x39 < 0)) False
(bsel (decide ((IntKind.wrap .i64 (x34 + (IntKind.wrap .i64 ((2 : Int) * 2 ^ (min (Int.toNat x39) 64))))) ≤ n29))
(∃ m37, m37 < m36 ∧ I35 (IntKind.wrap .i64 (x39 + (1 : Int))) m37 h38)
(f_buddy_Buddy_add (some (Addr.mk b12 0 none)) x34 x39 (fun h40 =>
(bsel (decide (x39 < 0)) False
(∃ m32, m32 < m31 ∧ I30 (IntKind.wrap .i64 (x34 + (IntKind.wrap .i64 ((1 : Int) * 2 ^ (min (Int.toNat x39) 64))))) m32 h40))) h38)))
(f_buddy_Buddy_add (some (Addr.mk b12 0 none)) x34 x39 (fun h41 =>
(bsel (decide (x39 < 0)) False
(∃ m32, m32 < m31 ∧ I30 (IntKind.wrap .i64 (x34 + (IntKind.wrap .i64 ((1 : Int) * 2 ^ (min (Int.toNat x39) 64))))) m32 h41))) h38)))
(f_buddy_Buddy_add (some (Addr.mk b12 0 none)) x34 x39 (fun h42 =>
(bsel (decide (x39 < 0)) False
(∃ m32, m32 < m31 ∧ I30 (IntKind.wrap .i64 (x34 + (IntKind.wrap .i64 ((1 : Int) * 2 ^ (min (Int.toNat x39) 64))))) m32 h42))) h38)))
(aI .i64 (Addr.add (Addr.mk b12 0 none) 12) h33 fun n43 =>
(aC (Addr.add (Addr.mk b12 0 none) 12) (.int .i64 (IntKind.wrap .i64 (n43 + (IntKind.wrap .i64 (n29 - n28))))) h33 fun h44 =>
(∃ m24, m24 < m23 ∧ I22 (IntKind.wrap .i64 (x26 + (1 : Int))) m24 h44)))))))))
(Q (some (Addr.mk b12 0 none)) (0 : Int) h25))))))))))
def buddy_New_A : buddy_New_T := buddy_New_G buddy_Buddy_add_A
def buddy_New_W (f : buddy_New_T) : ArS [.c .s] EnR := fun p0 K _Kp => f p0 (fun r0 r1 => K (.tuple #[(.pointer r0), (.int .i64 r1)]))

/- (*demesne/buddy.Buddy).Free -/
abbrev buddy_Buddy_Free_T := Option Addr → (Int → AH → Prop) → AP
def buddy_Buddy_Free_A (p0 : Option Addr) (Q : Int → AH → Prop) (h : AH) : Prop :=
(onSome p0 fun a1 =>
(aI .i64 (Addr.add a1 12) h fun n2 =>
(Q n2 h)))
def buddy_Buddy_Free_W (f : buddy_Buddy_Free_T) : ArS [.c .p] EnR := fun p0 K _Kp => f p0 (fun r0 => K (.int .i64 r0))

/- demesne/quota.New -/
abbrev quota_New_T := Int → (Option Addr → Int → AH → Prop) → AP
def quota_New_A (p0 : Int) (Q : Option Addr → Int → AH → Prop) (h : AH) : Prop :=
(bsel (decide (p0 < (0 : Int)))
(Q none (1 : Int) h)
(bsel (decide (p0 > (1048576 : Int)))
(Q none (1 : Int) h)
(newA h (.cells #[(.int .i64 (-1 : Int)), (.int .i64 p0), (.int .i64 (0 : Int)), (.int .i64 (0 : Int)), (.bool true)] 217) fun b1 h2 =>
(newA h2 (.cells #[(.slice (some (Addr.mk b1 0 none)) 1 1)] 292) fun b3 h4 =>
(Q (some (Addr.mk b3 0 none)) (0 : Int) h4)))))
def quota_New_W (f : quota_New_T) : ArS [.c (.i .i64)] EnR := fun p0 K _Kp => f p0 (fun r0 r1 => K (.tuple #[(.pointer r0), (.int .i64 r1)]))

/- (*demesne/space.Machine).purse -/
abbrev space_Machine_purse_T := Option Addr → Int → (Option Addr → Option Addr → Option Addr → Int → AH → Prop) → AP
def space_Machine_purse_A (p0 : Option Addr) (p1 : Int) (Q : Option Addr → Option Addr → Option Addr → Int → AH → Prop) (h : AH) : Prop :=
(onSome p0 fun a1 =>
(aP a1 h fun pt2 =>
(onSome p0 fun a3 =>
(aP (Addr.add a3 1) h fun pt4 =>
(onSome p0 fun a5 =>
(aP (Addr.add a5 2) h fun pt6 =>
(Q pt2 pt4 pt6 p1 h)))))))
def space_Machine_purse_W (f : space_Machine_purse_T) : ArS [.c .p, .c (.i .i64)] EnR := fun p0 p1 K _Kp => f p0 p1 (fun r0 r1 r2 r3 => K (.agg #[(.pointer r0), (.pointer r1), (.pointer r2), (.int .i64 r3)]))

/- (*demesne/quota.Tree).at -/
abbrev quota_Tree_at_T := Option Addr → Int → (Option Addr → Bool → AH → Prop) → AP
def quota_Tree_at_A (p0 : Option Addr) (p1 : Int) (Q : Option Addr → Bool → AH → Prop) (h : AH) : Prop :=
(bsel (decide (p1 < (0 : Int)))
(Q none false h)
(onSome p0 fun a1 =>
(aS a1 h fun s2 =>
(bsel (decide (p1 ≥ (Int.ofNat s2.len)))
(Q none false h)
(onSome p0 fun a3 =>
(aS a3 h fun s4 =>
(onSome s4.a fun a5 =>
(inB p1 s4.len
(aB (Addr.add (Addr.add a5 (Int.toNat p1 * 5)) 4) h fun b6 =>
(bsel (!b6)
(Q none false h)
(onSome p0 fun a7 =>
(aS a7 h fun s8 =>
(onSome s8.a fun a9 =>
(inB p1 s8.len
(Q (some (Addr.add a9 (Int.toNat p1 * 5))) true h)))))))))))))))
def quota_Tree_at_W (f : quota_Tree_at_T) : ArS [.c .p, .c (.i .i64)] EnR := fun p0 p1 K _Kp => f p0 p1 (fun r0 r1 => K (.tuple #[(.pointer r0), (.bool r1)]))

/- (*demesne/quota.Tree).Room -/
abbrev quota_Tree_Room_T := Option Addr → Int → (Int → AH → Prop) → AP
def quota_Tree_Room_G (f_quota_Tree_at : quota_Tree_at_T) (p0 : Option Addr) (p1 : Int) (Q : Int → AH → Prop) (h : AH) : Prop :=
(f_quota_Tree_at p0 p1 (fun pt1 b2 h3 =>
(bsel (!b2)
(Q (0 : Int) h3)
(onSome pt1 fun a4 =>
(aI .i64 (Addr.add a4 1) h3 fun n5 =>
(onSome pt1 fun a6 =>
(aI .i64 (Addr.add a6 2) h3 fun n7 =>
(onSome pt1 fun a8 =>
(aI .i64 (Addr.add a8 3) h3 fun n9 =>
(Q (IntKind.wrap .i64 ((IntKind.wrap .i64 (n5 - n7)) - n9)) h3))))))))) h)
def quota_Tree_Room_A : quota_Tree_Room_T := quota_Tree_Room_G quota_Tree_at_A
def quota_Tree_Room_W (f : quota_Tree_Room_T) : ArS [.c .p, .c (.i .i64)] EnR := fun p0 p1 K _Kp => f p0 p1 (fun r0 => K (.int .i64 r0))

/- (*demesne/quota.Tree).Charge -/
abbrev quota_Tree_Charge_T := Option Addr → Int → Int → (Int → AH → Prop) → AP
def quota_Tree_Charge_G (f_quota_Tree_at : quota_Tree_at_T) (f_quota_Tree_Room : quota_Tree_Room_T) (p0 : Option Addr) (p1 : Int) (p2 : Int) (Q : Int → AH → Prop) (h : AH) : Prop :=
(f_quota_Tree_at p0 p1 (fun pt1 b2 h3 =>
(bsel (!b2)
(Q (5 : Int) h3)
(bsel (decide (p2 < (0 : Int)))
(Q (1 : Int) h3)
(f_quota_Tree_Room p0 p1 (fun n4 h5 =>
(bsel (decide (p2 > n4))
(Q (8 : Int) h5)
(onSome pt1 fun a6 =>
(aI .i64 (Addr.add a6 2) h5 fun n7 =>
(onSome pt1 fun a8 =>
(aC (Addr.add a8 2) (.int .i64 (IntKind.wrap .i64 (n7 + p2))) h5 fun h9 =>
(Q (0 : Int) h9))))))) h3)))) h)
def quota_Tree_Charge_A : quota_Tree_Charge_T := quota_Tree_Charge_G quota_Tree_at_A quota_Tree_Room_A
def quota_Tree_Charge_W (f : quota_Tree_Charge_T) : ArS [.c .p, .c (.i .i64), .c (.i .i64)] EnR := fun p0 p1 p2 K _Kp => f p0 p1 p2 (fun r0 => K (.int .i64 r0))

/- maps.Keys[map[int]bool,int,bool] -/
abbrev maps_Keys_map_int_bool_int_bool_T := Option Nat → (Option Addr → AH → Prop) → AP
def maps_Keys_map_int_bool_int_bool_A (p0 : Option Nat) (Q : Option Addr → AH → Prop) (h : AH) : Prop :=
(newA h (.cells #[(.map p0)] 298) fun b1 h2 =>
(Q (some (Addr.mk b1 0 none)) h2))
def maps_Keys_map_int_bool_int_bool_W (f : maps_Keys_map_int_bool_int_bool_T) : ArS [.c .m] EnR := fun p0 K _Kp => f p0 (fun r0 => K (.func (.func 213) #[] #[(.pointer r0)]))

/- slices.Collect[int] of maps.Keys[map[int]bool,int,bool]$1: by the kit -/
abbrev slices_Collect_int_T := Option Addr → (Sl → AH → Prop) → AP
def slices_Collect_int_A : slices_Collect_int_T := clA 3
def slices_Collect_int_W (f : slices_Collect_int_T) : ArS [.fn 213 [] [.p]] EnR := fun p0 K _Kp => f p0 (fun r0 => K (.slice r0.a r0.len r0.cap))

/- slices.Min[[]int,int] -/
abbrev slices_Min_int_int_T := Sl → (Int → AH → Prop) → AP
def slices_Min_int_int_A (p0 : Sl) (Q : Int → AH → Prop) (h : AH) : Prop :=
(∃ R1 : AH → Prop, (∀ h2, R1 h2 → 
(onSome p0.a fun a3 =>
(inB (0 : Int) p0.len
(aI .i64 a3 h2 fun n4 =>
(∃ I5 : Int → Int → Nat → AH → Prop, (∃ m6, I5 n4 (1 : Int) m6 h2) ∧ ∀ x9 : Int, ∀ x10 : Int, ∀ m6 h8, I5 x9 x10 m6 h8 → 
(bsel (decide (x10 < (Int.ofNat p0.len)))
(onSome p0.a fun a11 =>
(inB x10 p0.len
(aI .i64 (Addr.add a11 (Int.toNat x10 * 1)) h8 fun n12 =>
(∃ m7, m7 < m6 ∧ I5 (if n12 < x9 then n12 else x9) (IntKind.wrap .i64 (x10 + (1 : Int))) m7 h8))))
(Q x9 h8))))))) ∧
(bsel (decide ((Int.ofNat p0.len) < (1 : Int)))
False
(R1 h)))
def slices_Min_int_int_W (f : slices_Min_int_int_T) : ArS [.c .s] EnR := fun p0 K _Kp => f p0 (fun r0 => K (.int .i64 r0))

/- (*demesne/buddy.Buddy).Take -/
abbrev buddy_Buddy_Take_T := Option Addr → Int → (Int → Int → AH → Prop) → AP
def buddy_Buddy_Take_G (f_maps_Keys_map_int_bool_int_bool : maps_Keys_map_int_bool_int_bool_T) (f_slices_Collect_int : slices_Collect_int_T) (f_slices_Min_int_int : slices_Min_int_int_T) (p0 : Option Addr) (p1 : Int) (Q : Int → Int → AH → Prop) (h : AH) : Prop :=
(∃ R1 : AH → Prop, (∀ h2, R1 h2 → 
(∃ R3 : Int → AH → Prop, (∀ x12 : Int, ∀ h13, R3 x12 h13 → 
(bsel (decide (x12 > (10 : Int)))
(Q (0 : Int) (7 : Int) h13)
(onSome p0 fun a14 =>
(inB x12 11
(aM (Addr.add a14 (Int.toNat x12 * 1)) h13 fun mp15 =>
(f_maps_Keys_map_int_bool_int_bool mp15 (fun pt16 h17 =>
(f_slices_Collect_int pt16 (fun s18 h19 =>
(f_slices_Min_int_int s18 (fun n20 h21 =>
(onSome p0 fun a22 =>
(inB x12 11
(aM (Addr.add a22 (Int.toNat x12 * 1)) h21 fun mp23 =>
(aMDl h21 mp23 .i64 n20 fun h24 =>
(∃ I25 : Int → Nat → AH → Prop, (∃ m26, I25 x12 m26 h24) ∧ ∀ x29 : Int, ∀ m26 h28, I25 x29 m26 h28 → 
(bsel (decide (x29 > p1))
(onSome p0 fun a30 =>
(inB (IntKind.wrap .i64 (x29 - (1 : Int))) 11
(aM (Addr.add a30 (Int.toNat (IntKind.wrap .i64 (x29 - (1 : Int))) * 1)) h28 fun mp31 =>
(bsel (decide ((IntKind.wrap .i64 (x29 - (1 : Int))) < 0)) False
(aMSt h28 mp31 .i64 (IntKind.wrap .i64 (n20 + (IntKind.wrap .i64 ((1 : Int) * 2 ^ (min (Int.toNat (IntKind.wrap .i64 (x29 - (1 : Int)))) 64))))) (.bool true) fun h32 =>
(∃ m27, m27 < m26 ∧ I25 (IntKind.wrap .i64 (x29 - (1 : Int))) m27 h32))))))
(onSome p0 fun a33 =>
(aM (Addr.add a33 11) h28 fun mp34 =>
(aMSt h28 mp34 .i64 n20 (.int .i64 p1) fun h35 =>
(onSome p0 fun a36 =>
(aI .i64 (Addr.add a36 12) h35 fun n37 =>
(bsel (decide (p1 < 0)) False
(onSome p0 fun a38 =>
(aC (Addr.add a38 12) (.int .i64 (IntKind.wrap .i64 (n37 - (IntKind.wrap .i64 ((1 : Int) * 2 ^ (min (Int.toNat p1) 64)))))) h35 fun h39 =>
(Q n20 (0 : Int) h39)))))))))))))))) h19)) h17)) h13)))))) ∧
(∃ I4 : Int → Nat → AH → Prop, (∃ m5, I4 p1 m5 h2) ∧ ∀ x8 : Int, ∀ m5 h7, I4 x8 m5 h7 → 
(bsel (decide (x8 ≤ (10 : Int)))
(onSome p0 fun a9 =>
(inB x8 11
(aM (Addr.add a9 (Int.toNat x8 * 1)) h7 fun mp10 =>
(aMLn h7 mp10 fun n11 =>
(bsel (n11 == (0 : Int))
(∃ m6, m6 < m5 ∧ I4 (IntKind.wrap .i64 (x8 + (1 : Int))) m6 h7)
(R3 x8 h7))))))
(R3 x8 h7))))) ∧
(bsel (decide (p1 < (0 : Int)))
(Q (0 : Int) (1 : Int) h)
(bsel (decide (p1 > (10 : Int)))
(Q (0 : Int) (1 : Int) h)
(R1 h))))
def buddy_Buddy_Take_A : buddy_Buddy_Take_T := buddy_Buddy_Take_G maps_Keys_map_int_bool_int_bool_A slices_Collect_int_A slices_Min_int_int_A
def buddy_Buddy_Take_W (f : buddy_Buddy_Take_T) : ArS [.c .p, .c (.i .i64)] EnR := fun p0 p1 K _Kp => f p0 p1 (fun r0 r1 => K (.tuple #[(.int .i64 r0), (.int .i64 r1)]))

/- (*demesne/ram.RAM).Has -/
abbrev ram_RAM_Has_T := Option Addr → Int → (Bool → AH → Prop) → AP
def ram_RAM_Has_A (p0 : Option Addr) (p1 : Int) (Q : Bool → AH → Prop) (h : AH) : Prop :=
(bsel (decide (p1 < (0 : Int)))
(Q false h)
(onSome p0 fun a1 =>
(aI .i64 a1 h fun n2 =>
(bsel (decide (p1 ≥ n2))
(Q false h)
(onSome p0 fun a3 =>
(aS (Addr.add a3 1) h fun s4 =>
(∃ I5 : Int → Nat → AH → Prop, (∃ m6, I5 (0 : Int) m6 h) ∧ ∀ x9 : Int, ∀ m6 h8, I5 x9 m6 h8 → 
(bsel (decide (x9 < (Int.ofNat s4.len)))
(onSome s4.a fun a10 =>
(inB x9 s4.len
(aI .i64 (Addr.add a10 (Int.toNat x9 * 2)) h8 fun n11 =>
(aI .i64 (Addr.add (Addr.add a10 (Int.toNat x9 * 2)) 1) h8 fun n12 =>
(bsel (decide (p1 ≥ n11))
(bsel (decide (p1 < n12))
(Q false h8)
(∃ m7, m7 < m6 ∧ I5 (IntKind.wrap .i64 (x9 + (1 : Int))) m7 h8))
(∃ m7, m7 < m6 ∧ I5 (IntKind.wrap .i64 (x9 + (1 : Int))) m7 h8))))))
(Q true h8)))))))))
def ram_RAM_Has_W (f : ram_RAM_Has_T) : ArS [.c .p, .c (.i .i64)] EnR := fun p0 p1 K _Kp => f p0 p1 (fun r0 => K (.bool r0))

/- (*demesne/ram.RAM).Zero -/
abbrev ram_RAM_Zero_T := Option Addr → Int → (Int → AH → Prop) → AP
def ram_RAM_Zero_G (f_ram_RAM_Has : ram_RAM_Has_T) (p0 : Option Addr) (p1 : Int) (Q : Int → AH → Prop) (h : AH) : Prop :=
(f_ram_RAM_Has p0 p1 (fun b1 h2 =>
(bsel (!b1)
(Q (2 : Int) h2)
(onSome p0 fun a3 =>
(aM (Addr.add a3 2) h2 fun mp4 =>
(aMDl h2 mp4 .i64 p1 fun h5 =>
(Q (0 : Int) h5)))))) h)
def ram_RAM_Zero_A : ram_RAM_Zero_T := ram_RAM_Zero_G ram_RAM_Has_A
def ram_RAM_Zero_W (f : ram_RAM_Zero_T) : ArS [.c .p, .c (.i .i64)] EnR := fun p0 p1 K _Kp => f p0 p1 (fun r0 => K (.int .i64 r0))

/- (*demesne/buddy.Buddy).Give -/
abbrev buddy_Buddy_Give_T := Option Addr → Int → (Int → AH → Prop) → AP
def buddy_Buddy_Give_G (f_buddy_Buddy_add : buddy_Buddy_add_T) (p0 : Option Addr) (p1 : Int) (Q : Int → AH → Prop) (h : AH) : Prop :=
(onSome p0 fun a1 =>
(aM (Addr.add a1 11) h fun mp2 =>
(aLk h mp2 .i64 p1 fun o3 =>
(∃ n4 : Int, ((o3.getD (.int .i64 (0 : Int))) : Value) = (.int .i64 n4) ∧
(bsel (!o3.isSome)
(Q (5 : Int) h)
(onSome p0 fun a5 =>
(aM (Addr.add a5 11) h fun mp6 =>
(aMDl h mp6 .i64 p1 fun h7 =>
(onSome p0 fun a8 =>
(aI .i64 (Addr.add a8 12) h7 fun n9 =>
(bsel (decide (n4 < 0)) False
(onSome p0 fun a10 =>
(aC (Addr.add a10 12) (.int .i64 (IntKind.wrap .i64 (n9 + (IntKind.wrap .i64 ((1 : Int) * 2 ^ (min (Int.toNat n4) 64)))))) h7 fun h11 =>
(f_buddy_Buddy_add p0 p1 n4 (fun h12 =>
(Q (0 : Int) h12)) h11))))))))))))))
def buddy_Buddy_Give_A : buddy_Buddy_Give_T := buddy_Buddy_Give_G buddy_Buddy_add_A
def buddy_Buddy_Give_W (f : buddy_Buddy_Give_T) : ArS [.c .p, .c (.i .i64)] EnR := fun p0 p1 K _Kp => f p0 p1 (fun r0 => K (.int .i64 r0))

/- (*demesne/quota.Tree).Credit -/
abbrev quota_Tree_Credit_T := Option Addr → Int → Int → (Int → AH → Prop) → AP
def quota_Tree_Credit_G (f_quota_Tree_at : quota_Tree_at_T) (p0 : Option Addr) (p1 : Int) (p2 : Int) (Q : Int → AH → Prop) (h : AH) : Prop :=
(f_quota_Tree_at p0 p1 (fun pt1 b2 h3 =>
(bsel (!b2)
(Q (5 : Int) h3)
(bsel (decide (p2 < (0 : Int)))
(Q (1 : Int) h3)
(onSome pt1 fun a4 =>
(aI .i64 (Addr.add a4 2) h3 fun n5 =>
(bsel (decide (p2 > n5))
(Q (1 : Int) h3)
(onSome pt1 fun a6 =>
(aI .i64 (Addr.add a6 2) h3 fun n7 =>
(onSome pt1 fun a8 =>
(aC (Addr.add a8 2) (.int .i64 (IntKind.wrap .i64 (n7 - p2))) h3 fun h9 =>
(Q (0 : Int) h9))))))))))) h)
def quota_Tree_Credit_A : quota_Tree_Credit_T := quota_Tree_Credit_G quota_Tree_at_A
def quota_Tree_Credit_W (f : quota_Tree_Credit_T) : ArS [.c .p, .c (.i .i64), .c (.i .i64)] EnR := fun p0 p1 p2 K _Kp => f p0 p1 p2 (fun r0 => K (.int .i64 r0))

/- (demesne/table.Purse).Take -/
abbrev table_Purse_Take_T := Option Addr → Option Addr → Option Addr → Int → (Int → Int → AH → Prop) → AP
def table_Purse_Take_G (f_quota_Tree_Charge : quota_Tree_Charge_T) (f_buddy_Buddy_Take : buddy_Buddy_Take_T) (f_ram_RAM_Zero : ram_RAM_Zero_T) (f_buddy_Buddy_Give : buddy_Buddy_Give_T) (f_quota_Tree_Credit : quota_Tree_Credit_T) (p0 : Option Addr) (p1 : Option Addr) (p2 : Option Addr) (p3 : Int) (Q : Int → Int → AH → Prop) (h : AH) : Prop :=
(f_quota_Tree_Charge p2 p3 (1 : Int) (fun n1 h2 =>
(bsel (n1 != (0 : Int))
(Q (0 : Int) n1 h2)
(f_buddy_Buddy_Take p1 (0 : Int) (fun n3 n4 h5 =>
(∃ R6 : Int → AH → Prop, (∀ x11 : Int, ∀ h12, R6 x11 h12 → 
(f_quota_Tree_Credit p2 p3 (1 : Int) (fun n13 h14 =>
(Q (0 : Int) x11 h14)) h12)) ∧
(bsel (n4 == (0 : Int))
(f_ram_RAM_Zero p0 n3 (fun n7 h8 =>
(bsel (n7 == (0 : Int))
(Q n3 (0 : Int) h8)
(f_buddy_Buddy_Give p1 n3 (fun n9 h10 =>
(R6 n7 h10)) h8))) h5)
(R6 n4 h5)))) h2))) h)
def table_Purse_Take_A : table_Purse_Take_T := table_Purse_Take_G quota_Tree_Charge_A buddy_Buddy_Take_A ram_RAM_Zero_A buddy_Buddy_Give_A quota_Tree_Credit_A
def table_Purse_Take_W (f : table_Purse_Take_T) : ArS [.agg [.p, .p, .p, (.i .i64)]] EnR := fun p0 p1 p2 p3 K _Kp => f p0 p1 p2 p3 (fun r0 r1 => K (.tuple #[(.int .i64 r0), (.int .i64 r1)]))

/- (*demesne/ram.RAM).Frames -/
abbrev ram_RAM_Frames_T := Option Addr → (Int → AH → Prop) → AP
def ram_RAM_Frames_A (p0 : Option Addr) (Q : Int → AH → Prop) (h : AH) : Prop :=
(onSome p0 fun a1 =>
(aI .i64 a1 h fun n2 =>
(Q n2 h)))
def ram_RAM_Frames_W (f : ram_RAM_Frames_T) : ArS [.c .p] EnR := fun p0 K _Kp => f p0 (fun r0 => K (.int .i64 r0))

/- (demesne/table.Purse).Give -/
abbrev table_Purse_Give_T := Option Addr → Option Addr → Option Addr → Int → Int → (AH → Prop) → AP
def table_Purse_Give_G (f_buddy_Buddy_Give : buddy_Buddy_Give_T) (f_quota_Tree_Credit : quota_Tree_Credit_T) (_p0 : Option Addr) (p1 : Option Addr) (p2 : Option Addr) (p3 : Int) (p4 : Int) (Q : AH → Prop) (h : AH) : Prop :=
(f_buddy_Buddy_Give p1 p4 (fun n1 h2 =>
(f_quota_Tree_Credit p2 p3 (1 : Int) (fun n3 h4 =>
(Q h4)) h2)) h)
def table_Purse_Give_A : table_Purse_Give_T := table_Purse_Give_G buddy_Buddy_Give_A quota_Tree_Credit_A
def table_Purse_Give_W (f : table_Purse_Give_T) : ArS [.agg [.p, .p, .p, (.i .i64)], .c (.i .i64)] EnR := fun p0 p1 p2 p3 p4 K _Kp => f p0 p1 p2 p3 p4 (K (.tuple #[]))

/- (*demesne/pte.Entry).flags -/
abbrev pte_Entry_flags_T := Option Addr → (Option Addr → Option Addr → Option Addr → Option Addr → Option Addr → Option Addr → Option Addr → Option Addr → AH → Prop) → AP
def pte_Entry_flags_A (p0 : Option Addr) (Q : Option Addr → Option Addr → Option Addr → Option Addr → Option Addr → Option Addr → Option Addr → Option Addr → AH → Prop) (h : AH) : Prop :=
(onSome p0 fun a1 =>
(onSome p0 fun a2 =>
(onSome p0 fun a3 =>
(onSome p0 fun a4 =>
(onSome p0 fun a5 =>
(onSome p0 fun a6 =>
(onSome p0 fun a7 =>
(onSome p0 fun a8 =>
(Q ((some a1) : Option Addr) ((some (Addr.add a2 1)) : Option Addr) ((some (Addr.add a3 2)) : Option Addr) ((some (Addr.add a4 3)) : Option Addr) ((some (Addr.add a5 4)) : Option Addr) ((some (Addr.add a6 5)) : Option Addr) ((some (Addr.add a7 6)) : Option Addr) ((some (Addr.add a8 7)) : Option Addr) h)))))))))
def pte_Entry_flags_W (f : pte_Entry_flags_T) : ArS [.c .p] EnR := fun p0 K _Kp => f p0 (fun r0 r1 r2 r3 r4 r5 r6 r7 => K (.agg #[(.pointer r0), (.pointer r1), (.pointer r2), (.pointer r3), (.pointer r4), (.pointer r5), (.pointer r6), (.pointer r7)]))

/- demesne/pte.places -/
abbrev pte_places_T := (Int → Int → Int → Int → Int → Int → Int → Int → AH → Prop) → AP
def pte_places_A (Q : Int → Int → Int → Int → Int → Int → Int → Int → AH → Prop) (h : AH) : Prop :=
(Q (0 : Int) (1 : Int) (2 : Int) (5 : Int) (6 : Int) (7 : Int) (8 : Int) (63 : Int) h)
def pte_places_W (f : pte_places_T) : ArS [] EnR := fun  K _Kp => f  (fun r0 r1 r2 r3 r4 r5 r6 r7 => K (.agg #[(.int .i64 r0), (.int .i64 r1), (.int .i64 r2), (.int .i64 r3), (.int .i64 r4), (.int .i64 r5), (.int .i64 r6), (.int .i64 r7)]))

/- demesne/pte.Pack -/
abbrev pte_Pack_T := Bool → Bool → Bool → Bool → Bool → Bool → Bool → Bool → Int → (Int → Int → AH → Prop) → AP
def pte_Pack_G (f_pte_Entry_flags : pte_Entry_flags_T) (f_pte_places : pte_places_T) (p0 : Bool) (p1 : Bool) (p2 : Bool) (p3 : Bool) (p4 : Bool) (p5 : Bool) (p6 : Bool) (p7 : Bool) (p8 : Int) (Q : Int → Int → AH → Prop) (h : AH) : Prop :=
(newA h (.cells #[(.bool p0), (.bool p1), (.bool p2), (.bool p3), (.bool p4), (.bool p5), (.bool p6), (.bool p7), (.int .i64 p8)] 146) fun b1 h2 =>
(∃ R3 : AH → Prop, (∀ h6, R3 h6 → 
(aI .i64 (Addr.add (Addr.mk b1 0 none) 8) h6 fun n7 =>
(f_pte_Entry_flags (some (Addr.mk b1 0 none)) (fun pt8 pt9 pt10 pt11 pt12 pt13 pt14 pt15 h16 =>
(∃ I17 : Int → Int → Nat → AH → Prop, (∃ m18, I17 (IntKind.wrap .u64 ((IntKind.wrap .u64 n7) * 2 ^ (12 : Nat))) (0 : Int) m18 h16) ∧ ∀ x21 : Int, ∀ x22 : Int, ∀ m18 h20, I17 x21 x22 m18 h20 → 
(bsel (decide (x22 < (8 : Int)))
(∃ R23 : Int → AH → Prop, (∀ x37 : Int, ∀ h38, R23 x37 h38 → 
(∃ m19, m19 < m18 ∧ I17 x37 (IntKind.wrap .i64 (x22 + (1 : Int))) m19 h38)) ∧
(inB x22 8
(geP [(.pointer pt8), (.pointer pt9), (.pointer pt10), (.pointer pt11), (.pointer pt12), (.pointer pt13), (.pointer pt14), (.pointer pt15)] (Int.toNat x22) fun n24 =>
(onSome n24 fun a25 =>
(aB a25 h20 fun b26 =>
(bsel b26
(f_pte_places (fun n27 n28 n29 n30 n31 n32 n33 n34 h35 =>
(inB x22 8
(geI .i64 [(.int .i64 n27), (.int .i64 n28), (.int .i64 n29), (.int .i64 n30), (.int .i64 n31), (.int .i64 n32), (.int .i64 n33), (.int .i64 n34)] (Int.toNat x22) fun n36 =>
(bsel (decide (n36 < 0)) False
(R23 (bits .or .u64 x21 (IntKind.wrap .u64 ((1 : Int) * 2 ^ (min (Int.toNat n36) 64)))) h35))))) h20)
(R23 x21 h20)))))))
(Q x21 (0 : Int) h20)))) h6))) ∧
(aI .i64 (Addr.add (Addr.mk b1 0 none) 8) h2 fun n4 =>
(bsel (decide (n4 < (0 : Int)))
(Q (0 : Int) (1 : Int) h2)
(aI .i64 (Addr.add (Addr.mk b1 0 none) 8) h2 fun n5 =>
(bsel (decide (n5 ≥ (1048576 : Int)))
(Q (0 : Int) (1 : Int) h2)
(R3 h2)))))))
def pte_Pack_A : pte_Pack_T := pte_Pack_G pte_Entry_flags_A pte_places_A
def pte_Pack_W (f : pte_Pack_T) : ArS [.agg [.b, .b, .b, .b, .b, .b, .b, .b, (.i .i64)]] EnR := fun p0 p1 p2 p3 p4 p5 p6 p7 p8 K _Kp => f p0 p1 p2 p3 p4 p5 p6 p7 p8 (fun r0 r1 => K (.tuple #[(.int .u64 r0), (.int .i64 r1)]))

/- demesne/table.place -/
abbrev table_place_T := Int → Int → (Int → AH → Prop) → AP
def table_place_A (p0 : Int) (p1 : Int) (Q : Int → AH → Prop) (h : AH) : Prop :=
(Q (IntKind.wrap .u64 ((IntKind.wrap .u64 ((IntKind.wrap .u64 p0) * (4096 : Int))) + (IntKind.wrap .u64 (IntKind.wrap .i64 ((8 : Int) * p1))))) h)
def table_place_W (f : table_place_T) : ArS [.c (.i .i64), .c (.i .i64)] EnR := fun p0 p1 K _Kp => f p0 p1 (fun r0 => K (.int .u64 r0))

/- (*demesne/ram.RAM).check -/
abbrev ram_RAM_check_T := Option Addr → Int → Int → (Int → AH → Prop) → AP
def ram_RAM_check_G (f_ram_RAM_Has : ram_RAM_Has_T) (p0 : Option Addr) (p1 : Int) (p2 : Int) (Q : Int → AH → Prop) (h : AH) : Prop :=
(∃ R1 : Bool → AH → Prop, (∀ b2 : Bool, ∀ h3, R1 b2 h3 → 
(bsel b2
(bsel (decide ((IntKind.wrap .u64 ((IntKind.wrap .u64 (p1 + (IntKind.wrap .u64 p2))) - (1 : Int))) < p1))
(Q (2 : Int) h3)
(onSome p0 fun a4 =>
(aI .i64 a4 h3 fun n5 =>
(bsel (decide ((IntKind.wrap .u64 (Int.tdiv (IntKind.wrap .u64 ((IntKind.wrap .u64 (p1 + (IntKind.wrap .u64 p2))) - (1 : Int))) (4096 : Int))) ≥ (IntKind.wrap .u64 n5)))
(Q (2 : Int) h3)
(f_ram_RAM_Has p0 (IntKind.wrap .i64 (IntKind.wrap .u64 (Int.tdiv p1 (4096 : Int)))) (fun b6 h7 =>
(bsel (!b6)
(Q (2 : Int) h7)
(f_ram_RAM_Has p0 (IntKind.wrap .i64 (IntKind.wrap .u64 (Int.tdiv (IntKind.wrap .u64 ((IntKind.wrap .u64 (p1 + (IntKind.wrap .u64 p2))) - (1 : Int))) (4096 : Int)))) (fun b8 h9 =>
(bsel (!b8)
(Q (2 : Int) h9)
(Q (0 : Int) h9))) h7))) h3)))))
(Q (1 : Int) h3))) ∧
(bsel (p2 == (1 : Int))
(R1 (p2 == (1 : Int)) h)
(bsel (p2 == (2 : Int))
(R1 (p2 == (2 : Int)) h)
(bsel (p2 == (4 : Int))
(R1 (p2 == (4 : Int)) h)
(R1 (p2 == (8 : Int)) h)))))
def ram_RAM_check_A : ram_RAM_check_T := ram_RAM_check_G ram_RAM_Has_A
def ram_RAM_check_W (f : ram_RAM_check_T) : ArS [.c .p, .c (.i .u64), .c (.i .i64)] EnR := fun p0 p1 p2 K _Kp => f p0 p1 p2 (fun r0 => K (.int .i64 r0))

/- (*demesne/ram.RAM).own -/
abbrev ram_RAM_own_T := Option Addr → Int → (Option Addr → AH → Prop) → AP
def ram_RAM_own_A (p0 : Option Addr) (p1 : Int) (Q : Option Addr → AH → Prop) (h : AH) : Prop :=
(onSome p0 fun a1 =>
(aM (Addr.add a1 2) h fun mp2 =>
(aLk h mp2 .i64 p1 fun o3 =>
(∃ pt4 : Option Addr, ((o3.getD (.pointer none)) : Value) = (.pointer pt4) ∧
(∃ R5 : Option Addr → AH → Prop, (∀ pt11 : Option Addr, ∀ h12, R5 pt11 h12 → 
(Q pt11 h12)) ∧
(bsel pt4.isNone
(newA h (.cells (Array.replicate 4096 (.int .u8 (0 : Int))) 257) fun b6 h7 =>
(onSome p0 fun a8 =>
(aM (Addr.add a8 2) h7 fun mp9 =>
(aMSt h7 mp9 .i64 p1 (.pointer (some (Addr.mk b6 0 none))) fun h10 =>
(R5 (some (Addr.mk b6 0 none)) h10)))))
(R5 pt4 h)))))))
def ram_RAM_own_W (f : ram_RAM_own_T) : ArS [.c .p, .c (.i .i64)] EnR := fun p0 p1 K _Kp => f p0 p1 (fun r0 => K (.pointer r0))

/- (*demesne/ram.RAM).Store -/
abbrev ram_RAM_Store_T := Option Addr → Int → Int → Int → (Int → AH → Prop) → AP
def ram_RAM_Store_G (f_ram_RAM_check : ram_RAM_check_T) (f_ram_RAM_own : ram_RAM_own_T) (p0 : Option Addr) (p1 : Int) (p2 : Int) (p3 : Int) (Q : Int → AH → Prop) (h : AH) : Prop :=
(f_ram_RAM_check p0 p1 p2 (fun n1 h2 =>
(bsel (n1 != (0 : Int))
(Q n1 h2)
(∃ I3 : Int → Nat → AH → Prop, (∃ m4, I3 (0 : Int) m4 h2) ∧ ∀ x7 : Int, ∀ m4 h6, I3 x7 m4 h6 → 
(bsel (decide (x7 < p2))
(bsel (decide ((IntKind.wrap .i64 ((8 : Int) * x7)) < 0)) False
(f_ram_RAM_own p0 (IntKind.wrap .i64 (IntKind.wrap .u64 (Int.tdiv (IntKind.wrap .u64 (p1 + (IntKind.wrap .u64 x7))) (4096 : Int)))) (fun pt8 h9 =>
(onSome pt8 fun a10 =>
(inB (Int.tmod (IntKind.wrap .u64 (p1 + (IntKind.wrap .u64 x7))) (4096 : Int)) 4096
(aC (Addr.add a10 (Int.toNat (Int.tmod (IntKind.wrap .u64 (p1 + (IntKind.wrap .u64 x7))) (4096 : Int)) * 1)) (.int .u8 (IntKind.wrap .u8 (Int.fdiv p3 (2 ^ (min (Int.toNat (IntKind.wrap .i64 ((8 : Int) * x7))) 64))))) h9 fun h11 =>
(∃ m5, m5 < m4 ∧ I3 (IntKind.wrap .i64 (x7 + (1 : Int))) m5 h11))))) h6))
(Q (0 : Int) h6))))) h)
def ram_RAM_Store_A : ram_RAM_Store_T := ram_RAM_Store_G ram_RAM_check_A ram_RAM_own_A
def ram_RAM_Store_W (f : ram_RAM_Store_T) : ArS [.c .p, .c (.i .u64), .c (.i .i64), .c (.i .u64)] EnR := fun p0 p1 p2 p3 K _Kp => f p0 p1 p2 p3 (fun r0 => K (.int .i64 r0))

/- (demesne/table.Purse).put -/
abbrev table_Purse_put_T := Option Addr → Option Addr → Option Addr → Int → Int → Int → Bool → Bool → Bool → Bool → Bool → Bool → Bool → Bool → Int → (AH → Prop) → AP
def table_Purse_put_G (f_pte_Pack : pte_Pack_T) (f_table_place : table_place_T) (f_ram_RAM_Store : ram_RAM_Store_T) (p0 : Option Addr) (_p1 : Option Addr) (_p2 : Option Addr) (_p3 : Int) (p4 : Int) (p5 : Int) (p6 : Bool) (p7 : Bool) (p8 : Bool) (p9 : Bool) (p10 : Bool) (p11 : Bool) (p12 : Bool) (p13 : Bool) (p14 : Int) (Q : AH → Prop) (h : AH) : Prop :=
(f_pte_Pack p6 p7 p8 p9 p10 p11 p12 p13 p14 (fun n1 n2 h3 =>
(f_table_place p4 p5 (fun n4 h5 =>
(f_ram_RAM_Store p0 n4 (8 : Int) n1 (fun n6 h7 =>
(Q h7)) h5)) h3)) h)
def table_Purse_put_A : table_Purse_put_T := table_Purse_put_G pte_Pack_A table_place_A ram_RAM_Store_A
def table_Purse_put_W (f : table_Purse_put_T) : ArS [.agg [.p, .p, .p, (.i .i64)], .c (.i .i64), .c (.i .i64), .agg [.b, .b, .b, .b, .b, .b, .b, .b, (.i .i64)]] EnR := fun p0 p1 p2 p3 p4 p5 p6 p7 p8 p9 p10 p11 p12 p13 p14 K _Kp => f p0 p1 p2 p3 p4 p5 p6 p7 p8 p9 p10 p11 p12 p13 p14 (K (.tuple #[]))

/- demesne/table.Kernel -/
abbrev table_Kernel_T := Option Addr → Option Addr → Option Addr → Int → (Int → Int → AH → Prop) → AP
def table_Kernel_G (f_table_Purse_Take : table_Purse_Take_T) (f_ram_RAM_Frames : ram_RAM_Frames_T) (f_table_Purse_Give : table_Purse_Give_T) (f_table_Purse_put : table_Purse_put_T) (p0 : Option Addr) (p1 : Option Addr) (p2 : Option Addr) (p3 : Int) (Q : Int → Int → AH → Prop) (h : AH) : Prop :=
(f_table_Purse_Take p0 p1 p2 p3 (fun n1 n2 h3 =>
(bsel (n2 != (0 : Int))
(Q (0 : Int) n2 h3)
(newA h3 (.cells #[(.int .i64 n1)] 3) fun b4 h5 =>
(∃ I6 : Sl → Int → Nat → AH → Prop, (∃ m7, I6 (Sl.mk (some (Addr.mk b4 0 none)) 1 1) (0 : Int) m7 h5) ∧ ∀ s10 : Sl, ∀ x11 : Int, ∀ m7 h9, I6 s10 x11 m7 h9 → 
(f_ram_RAM_Frames p0 (fun n12 h13 =>
(bsel (decide (x11 < n12))
(f_table_Purse_Take p0 p1 p2 p3 (fun n14 n15 h16 =>
(bsel (n15 != (0 : Int))
(∃ I17 : Int → Nat → AH → Prop, (∃ m18, I17 (0 : Int) m18 h16) ∧ ∀ x21 : Int, ∀ m18 h20, I17 x21 m18 h20 → 
(bsel (decide (x21 < (Int.ofNat s10.len)))
(onSome s10.a fun a22 =>
(inB x21 s10.len
(aI .i64 (Addr.add a22 (Int.toNat x21 * 1)) h20 fun n23 =>
(f_table_Purse_Give p0 p1 p2 p3 n23 (fun h24 =>
(∃ m19, m19 < m18 ∧ I17 (IntKind.wrap .i64 (x21 + (1 : Int))) m19 h24)) h20))))
(Q (0 : Int) n15 h20)))
(newA h16 (.cells #[(.int .i64 n14)] 3) fun b25 h26 =>
(apA 1 8 #[(.int .i64 (0 : Int))] 3 s10 (Sl.mk (some (Addr.mk b25 0 none)) 1 1) h26 fun s27 h28 =>
(f_table_Purse_put p0 p1 p2 p3 n1 (Int.fdiv x11 (2 ^ (18 : Nat))) true true false false false false false false n14 (fun h29 =>
(∃ I30 : Int → Nat → AH → Prop, (∃ m31, I30 (0 : Int) m31 h29) ∧ ∀ x34 : Int, ∀ m31 h33, I30 x34 m31 h33 → 
(bsel (decide (x34 < (512 : Int)))
(f_ram_RAM_Frames p0 (fun n35 h36 =>
(bsel (decide ((IntKind.wrap .i64 (x11 + (IntKind.wrap .i64 (x34 * 2 ^ (9 : Nat))))) < n35))
(f_table_Purse_put p0 p1 p2 p3 n14 x34 true true false false false true true true (IntKind.wrap .i64 (x11 + (IntKind.wrap .i64 (x34 * 2 ^ (9 : Nat))))) (fun h37 =>
(∃ m32, m32 < m31 ∧ I30 (IntKind.wrap .i64 (x34 + (1 : Int))) m32 h37)) h36)
(∃ m8, m8 < m7 ∧ I6 s27 (IntKind.wrap .i64 (x11 + (262144 : Int))) m8 h36))) h33)
(∃ m8, m8 < m7 ∧ I6 s27 (IntKind.wrap .i64 (x11 + (262144 : Int))) m8 h33)))) h28))))) h13)
(Q n1 (0 : Int) h13))) h9))))) h)
def table_Kernel_A : table_Kernel_T := table_Kernel_G table_Purse_Take_A ram_RAM_Frames_A table_Purse_Give_A table_Purse_put_A
def table_Kernel_W (f : table_Kernel_T) : ArS [.agg [.p, .p, .p, (.i .i64)]] EnR := fun p0 p1 p2 p3 K _Kp => f p0 p1 p2 p3 (fun r0 r1 => K (.tuple #[(.int .i64 r0), (.int .i64 r1)]))

/- demesne/space.Boot -/
abbrev space_Boot_T := Int → Int → Int → Int → Sl → (Option Addr → Int → AH → Prop) → AP
def space_Boot_G (f_bootmap_Frames : bootmap_Frames_T) (f_pcid_New : pcid_New_T) (f_ram_New : ram_New_T) (f_buddy_New : buddy_New_T) (f_buddy_Buddy_Free : buddy_Buddy_Free_T) (f_quota_New : quota_New_T) (f_space_Machine_purse : space_Machine_purse_T) (f_table_Kernel : table_Kernel_T) (p0 : Int) (p1 : Int) (p2 : Int) (p3 : Int) (p4 : Sl) (Q : Option Addr → Int → AH → Prop) (h : AH) : Prop :=
(f_bootmap_Frames p4 p0 p1 p2 (fun s1 n2 h3 =>
(bsel (n2 != (0 : Int))
(Q none n2 h3)
(f_pcid_New p3 (fun pt4 n5 h6 =>
(bsel (n5 != (0 : Int))
(Q none n5 h6)
(newA h6 (.cells #[(.bool false), (.int .i64 (0 : Int)), (.int .i64 (0 : Int)), (.int .i64 (0 : Int)), (.bool false), (.bool false), (.bool false), (.bool false), (.bool false), (.bool false), (.int .i64 (0 : Int)), (.int .i64 (0 : Int)), (.int .i64 (0 : Int)), (.bool false), (.bool false), (.bool false), (.bool false), (.bool false), (.bool false), (.int .i64 (0 : Int)), (.int .i64 (0 : Int)), (.int .i64 (0 : Int)), (.bool false), (.bool false), (.bool false), (.bool false), (.bool false), (.bool false), (.int .i64 (0 : Int)), (.int .i64 (0 : Int)), (.int .i64 (0 : Int)), (.bool false), (.bool false), (.bool false), (.bool false), (.bool false), (.bool false), (.int .i64 (0 : Int)), (.int .i64 (0 : Int)), (.int .i64 (0 : Int)), (.bool false), (.bool false), (.bool false), (.bool false), (.bool false), (.bool false), (.int .i64 (0 : Int)), (.int .i64 (0 : Int)), (.int .i64 (0 : Int)), (.bool false), (.bool false), (.bool false), (.bool false), (.bool false), (.bool false), (.int .i64 (0 : Int)), (.int .i64 (0 : Int)), (.int .i64 (0 : Int)), (.bool false), (.bool false), (.bool false), (.bool false), (.bool false), (.bool false), (.int .i64 (0 : Int)), (.int .i64 (0 : Int)), (.int .i64 (0 : Int)), (.bool false), (.bool false), (.bool false), (.bool false), (.bool false), (.bool false), (.int .i64 (0 : Int)), (.int .i64 (0 : Int)), (.int .i64 (0 : Int)), (.bool false), (.bool false), (.bool false), (.bool false), (.bool false), (.bool false), (.int .i64 (0 : Int)), (.int .i64 (0 : Int)), (.int .i64 (0 : Int)), (.bool false), (.bool false), (.bool false), (.bool false), (.bool false), (.bool false), (.int .i64 (0 : Int)), (.int .i64 (0 : Int)), (.int .i64 (0 : Int)), (.bool false), (.bool false), (.bool false), (.bool false), (.bool false), (.bool false), (.int .i64 (0 : Int)), (.int .i64 (0 : Int)), (.int .i64 (0 : Int)), (.bool false), (.bool false), (.bool false), (.bool false), (.bool false), (.bool false), (.int .i64 (0 : Int)), (.int .i64 (0 : Int)), (.int .i64 (0 : Int)), (.bool false), (.bool false), (.bool false), (.bool false), (.bool false), (.bool false), (.int .i64 (0 : Int)), (.int .i64 (0 : Int)), (.int .i64 (0 : Int)), (.bool false), (.bool false), (.bool false), (.bool false), (.bool false), (.bool false), (.int .i64 (0 : Int)), (.int .i64 (0 : Int)), (.int .i64 (0 : Int)), (.bool false), (.bool false), (.bool false), (.bool false), (.bool false), (.bool false), (.int .i64 (0 : Int)), (.int .i64 (0 : Int)), (.int .i64 (0 : Int)), (.bool false), (.bool false), (.bool false), (.bool false), (.bool false)] 183) fun b7 h8 =>
(newA h8 (.map #[] 0) fun b9 h10 =>
(newA h10 (.cells #[(.pointer none), (.pointer none), (.pointer none), (.pointer (some (Addr.mk b7 0 none))), (.pointer pt4), (.int .i64 (0 : Int)), (.map (some b9))] 86) fun b11 h12 =>
(f_ram_New p0 Sl.nil (fun pt13 n14 h15 =>
(aC (Addr.mk b11 0 none) (.pointer pt13) h15 fun h16 =>
(f_buddy_New s1 (fun pt17 n18 h19 =>
(aC (Addr.add (Addr.mk b11 0 none) 1) (.pointer pt17) h19 fun h20 =>
(bsel (n18 != (0 : Int))
(Q none n18 h20)
(aP (Addr.add (Addr.mk b11 0 none) 1) h20 fun pt21 =>
(f_buddy_Buddy_Free pt21 (fun n22 h23 =>
(f_quota_New n22 (fun pt24 n25 h26 =>
(aC (Addr.add (Addr.mk b11 0 none) 2) (.pointer pt24) h26 fun h27 =>
(f_space_Machine_purse (some (Addr.mk b11 0 none)) (0 : Int) (fun pt28 pt29 pt30 n31 h32 =>
(f_table_Kernel pt28 pt29 pt30 n31 (fun n33 n34 h35 =>
(aC (Addr.add (Addr.mk b11 0 none) 5) (.int .i64 n33) h35 fun h36 =>
(bsel (n34 != (0 : Int))
(Q none n34 h36)
(Q (some (Addr.mk b11 0 none)) (0 : Int) h36)))) h32)) h27))) h23)) h20))))) h16))) h12)))))) h3))) h)
def space_Boot_A : space_Boot_T := space_Boot_G bootmap_Frames_A pcid_New_A ram_New_A buddy_New_A buddy_Buddy_Free_A quota_New_A space_Machine_purse_A table_Kernel_A
def space_Boot_W (f : space_Boot_T) : ArS [.agg [(.i .i64), (.i .i64), (.i .i64), (.i .i64), .s]] EnR := fun p0 p1 p2 p3 p4 K _Kp => f p0 p1 p2 p3 p4 (fun r0 r1 => K (.tuple #[(.pointer r0), (.int .i64 r1)]))

/- demesne/demesnelaw12.Begin -/
abbrev demesnelaw12_Begin_T := Int → Int → (Option Addr → Sl → Sl → Int → Bool → AH → Prop) → AP
def demesnelaw12_Begin_G (f_demesnelaw12_Plain : demesnelaw12_Plain_T) (f_space_Boot : space_Boot_T) (p0 : Int) (p1 : Int) (Q : Option Addr → Sl → Sl → Int → Bool → AH → Prop) (h : AH) : Prop :=
(f_demesnelaw12_Plain p0 p1 (fun n1 n2 n3 n4 s5 h6 =>
(f_space_Boot n1 n2 n3 n4 s5 (fun pt7 n8 h9 =>
(newA h9 (.cells #[(.int .i64 (0 : Int)), (.int .i64 (-1 : Int)), (.int .i64 (IntKind.wrap .i64 (p0 - (1 : Int)))), (.int .i64 (2 : Int))] 142) fun b10 h11 =>
(bsel (n8 == (0 : Int))
(Q pt7 (Sl.mk (none : Option Addr) (0 : Nat) (0 : Nat)) (Sl.mk ((some (Addr.mk b10 0 none)) : Option Addr) (1 : Nat) (1 : Nat)) (0 : Int) (!pt7.isNone) h11)
(Q pt7 (Sl.mk (none : Option Addr) (0 : Nat) (0 : Nat)) (Sl.mk ((some (Addr.mk b10 0 none)) : Option Addr) (1 : Nat) (1 : Nat)) (0 : Int) false h11)))) h6)) h)
def demesnelaw12_Begin_A : demesnelaw12_Begin_T := demesnelaw12_Begin_G demesnelaw12_Plain_A space_Boot_A
def demesnelaw12_Begin_W (f : demesnelaw12_Begin_T) : ArS [.c (.i .i64), .c (.i .i64)] EnR := fun p0 p1 K _Kp => f p0 p1 (fun r0 r1 r2 r3 r4 => K (.tuple #[(.pointer r0), (.agg #[(.slice r1.a r1.len r1.cap), (.slice r2.a r2.len r2.cap), (.int .i64 r3)]), (.bool r4)]))

/- demesne/cpu.New -/
abbrev cpu_New_T := Option Addr → Sl → (Option Addr → AH → Prop) → AP
def cpu_New_A (p0 : Option Addr) (p1 : Sl) (Q : Option Addr → AH → Prop) (h : AH) : Prop :=
(apA 1 8 #[(.int .i64 (0 : Int))] 3 Sl.nil p1 h fun s1 h2 =>
(newA h2 (.cells #[(.pointer p0), (.slice s1.a s1.len s1.cap), (.int .i64 (0 : Int))] 39) fun b3 h4 =>
(Q (some (Addr.mk b3 0 none)) h4)))
def cpu_New_W (f : cpu_New_T) : ArS [.c .p, .c .s] EnR := fun p0 p1 K _Kp => f p0 p1 (fun r0 => K (.pointer r0))

/- demesne/demesnelaw13.Begin -/
abbrev demesnelaw13_Begin_T := Int → Int → Sl → (Option Addr → Option Addr → Sl → Sl → Int → Option Nat → Bool → AH → Prop) → AP
def demesnelaw13_Begin_G (f_demesnelaw12_Begin : demesnelaw12_Begin_T) (f_cpu_New : cpu_New_T) (p0 : Int) (p1 : Int) (p2 : Sl) (Q : Option Addr → Option Addr → Sl → Sl → Int → Option Nat → Bool → AH → Prop) (h : AH) : Prop :=
(f_demesnelaw12_Begin p0 p1 (fun pt1 s2 s3 n4 b5 h6 =>
(newA h6 (.map #[] 0) fun b7 h8 =>
(bsel (!b5)
(Q none pt1 s2 s3 n4 ((some b7) : Option Nat) false h8)
(f_cpu_New pt1 p2 (fun pt9 h10 =>
(Q pt9 pt1 s2 s3 n4 ((some b7) : Option Nat) (!pt9.isNone) h10)) h8)))) h)
def demesnelaw13_Begin_A : demesnelaw13_Begin_T := demesnelaw13_Begin_G demesnelaw12_Begin_A cpu_New_A
def demesnelaw13_Begin_W (f : demesnelaw13_Begin_T) : ArS [.c (.i .i64), .c (.i .i64), .c .s] EnR := fun p0 p1 p2 K _Kp => f p0 p1 p2 (fun r0 r1 r2 r3 r4 r5 r6 => K (.tuple #[(.pointer r0), (.agg #[(.pointer r1), (.slice r2.a r2.len r2.cap), (.slice r3.a r3.len r3.cap), (.int .i64 r4), (.map r5)]), (.bool r6)]))

/- demesne/table.Root -/
abbrev table_Root_T := Option Addr → Option Addr → Option Addr → Int → Int → (Int → Int → AH → Prop) → AP
def table_Root_G (f_table_Purse_Take : table_Purse_Take_T) (f_table_Purse_put : table_Purse_put_T) (p0 : Option Addr) (p1 : Option Addr) (p2 : Option Addr) (p3 : Int) (p4 : Int) (Q : Int → Int → AH → Prop) (h : AH) : Prop :=
(f_table_Purse_Take p0 p1 p2 p3 (fun n1 n2 h3 =>
(bsel (n2 != (0 : Int))
(Q (0 : Int) n2 h3)
(f_table_Purse_put p0 p1 p2 p3 n1 (256 : Int) true true false false false false false false p4 (fun h4 =>
(Q n1 (0 : Int) h4)) h3))) h)
def table_Root_A : table_Root_T := table_Root_G table_Purse_Take_A table_Purse_put_A
def table_Root_W (f : table_Root_T) : ArS [.agg [.p, .p, .p, (.i .i64)], .c (.i .i64)] EnR := fun p0 p1 p2 p3 p4 K _Kp => f p0 p1 p2 p3 p4 (fun r0 r1 => K (.tuple #[(.int .i64 r0), (.int .i64 r1)]))

/- (*demesne/space.Machine).Open -/
abbrev space_Machine_Open_T := Option Addr → Int → Int → (Int → AH → Prop) → AP
def space_Machine_Open_G (f_space_Machine_purse : space_Machine_purse_T) (f_table_Root : table_Root_T) (p0 : Option Addr) (p1 : Int) (p2 : Int) (Q : Int → AH → Prop) (h : AH) : Prop :=
(bsel (decide (p1 < (0 : Int)))
(Q (1 : Int) h)
(onSome p0 fun a1 =>
(aM (Addr.add a1 6) h fun mp2 =>
(aLk h mp2 .i64 p1 fun o3 =>
(∃ pt4 : Option Addr, ((o3.getD (.pointer none)) : Value) = (.pointer pt4) ∧
(bsel (!pt4.isNone)
(Q (6 : Int) h)
(onSome p0 fun a5 =>
(aI .i64 (Addr.add a5 5) h fun n6 =>
(f_space_Machine_purse p0 p2 (fun pt7 pt8 pt9 n10 h11 =>
((aI .i64 (Addr.add a5 5) h11 fun n12 =>
(((.int .i64 n12) : Value) = (.int .i64 n6))) ∧
(f_table_Root pt7 pt8 pt9 n10 n6 (fun n13 n14 h15 =>
(bsel (n14 != (0 : Int))
(Q n14 h15)
(onSome p0 fun a16 =>
(aM (Addr.add a16 6) h15 fun mp17 =>
(newA h15 (.map #[] 0) fun b18 h19 =>
(newA h19 (.cells #[(.int .i64 p2), (.int .i64 n13), (.slice none 0 0), (.map (some b18))] 95) fun b20 h21 =>
(aMSt h21 mp17 .i64 p1 (.pointer (some (Addr.mk b20 0 none))) fun h22 =>
(Q (0 : Int) h22)))))))) h11))) h)))))))))
def space_Machine_Open_A : space_Machine_Open_T := space_Machine_Open_G space_Machine_purse_A table_Root_A
def space_Machine_Open_W (f : space_Machine_Open_T) : ArS [.c .p, .c (.i .i64), .c (.i .i64)] EnR := fun p0 p1 p2 K _Kp => f p0 p1 p2 (fun r0 => K (.int .i64 r0))

/- demesne/region.right -/
abbrev region_right_T := Int → Int → (Bool → AH → Prop) → AP
def region_right_A (p0 : Int) (p1 : Int) (Q : Bool → AH → Prop) (h : AH) : Prop :=
(bsel (decide (p0 ≥ (0 : Int)))
(bsel (decide (p1 > p0))
(bsel (decide (p1 ≤ (34359738368 : Int)))
(Q (decide ((IntKind.wrap .i64 (p1 - p0)) ≤ (65536 : Int))) h)
(Q false h))
(Q false h))
(Q false h))
def region_right_W (f : region_right_T) : ArS [.agg [(.i .i64), (.i .i64)]] EnR := fun p0 p1 K _Kp => f p0 p1 (fun r0 => K (.bool r0))

/- demesne/region.joins -/
abbrev region_joins_T := Int → Int → Bool → Bool → Bool → Int → Int → Int → Bool → Bool → Bool → Int → (Bool → AH → Prop) → AP
def region_joins_A (_p0 : Int) (p1 : Int) (p2 : Bool) (p3 : Bool) (p4 : Bool) (p5 : Int) (p6 : Int) (_p7 : Int) (p8 : Bool) (p9 : Bool) (p10 : Bool) (p11 : Int) (Q : Bool → AH → Prop) (h : AH) : Prop :=
(bsel (p1 == p6)
(bsel ((p2 == p8) && ((p3 == p9) && ((p4 == p10) && true)))
(Q (p5 == p11) h)
(Q false h))
(Q false h))
def region_joins_W (f : region_joins_T) : ArS [.agg [(.i .i64), (.i .i64), .b, .b, .b, (.i .i64)], .agg [(.i .i64), (.i .i64), .b, .b, .b, (.i .i64)]] EnR := fun p0 p1 p2 p3 p4 p5 p6 p7 p8 p9 p10 p11 K _Kp => f p0 p1 p2 p3 p4 p5 p6 p7 p8 p9 p10 p11 (fun r0 => K (.bool r0))

/- demesne/region.Good -/
abbrev region_Good_T := Sl → (Bool → AH → Prop) → AP
def region_Good_G (f_region_joins : region_joins_T) (p0 : Sl) (Q : Bool → AH → Prop) (h : AH) : Prop :=
(bsel (decide ((Int.ofNat p0.len) > (64 : Int)))
(Q false h)
(∃ I1 : Int → Nat → AH → Prop, (∃ m2, I1 (0 : Int) m2 h) ∧ ∀ x5 : Int, ∀ m2 h4, I1 x5 m2 h4 → 
(bsel (decide (x5 < (Int.ofNat p0.len)))
(onSome p0.a fun a6 =>
(inB x5 p0.len
(aI .i64 (Addr.add a6 (Int.toNat x5 * 6)) h4 fun n7 =>
(aI .i64 (Addr.add (Addr.add a6 (Int.toNat x5 * 6)) 1) h4 fun n8 =>
(aB (Addr.add (Addr.add a6 (Int.toNat x5 * 6)) 2) h4 fun b9 =>
(aB (Addr.add (Addr.add a6 (Int.toNat x5 * 6)) 3) h4 fun b10 =>
(aB (Addr.add (Addr.add a6 (Int.toNat x5 * 6)) 4) h4 fun b11 =>
(aI .i64 (Addr.add (Addr.add a6 (Int.toNat x5 * 6)) 5) h4 fun n12 =>
(bsel (decide (n7 < (0 : Int)))
(Q false h4)
(bsel (decide (n8 ≤ n7))
(Q false h4)
(bsel (decide (n8 > (34359738368 : Int)))
(Q false h4)
(bsel (decide (x5 > (0 : Int)))
(onSome p0.a fun a13 =>
(inB (IntKind.wrap .i64 (x5 - (1 : Int))) p0.len
(aI .i64 (Addr.add (Addr.add a13 (Int.toNat (IntKind.wrap .i64 (x5 - (1 : Int))) * 6)) 1) h4 fun n14 =>
(bsel (decide (n14 > n7))
(Q false h4)
(onSome p0.a fun a15 =>
(inB (IntKind.wrap .i64 (x5 - (1 : Int))) p0.len
(aI .i64 (Addr.add a15 (Int.toNat (IntKind.wrap .i64 (x5 - (1 : Int))) * 6)) h4 fun n16 =>
(aI .i64 (Addr.add (Addr.add a15 (Int.toNat (IntKind.wrap .i64 (x5 - (1 : Int))) * 6)) 1) h4 fun n17 =>
(aB (Addr.add (Addr.add a15 (Int.toNat (IntKind.wrap .i64 (x5 - (1 : Int))) * 6)) 2) h4 fun b18 =>
(aB (Addr.add (Addr.add a15 (Int.toNat (IntKind.wrap .i64 (x5 - (1 : Int))) * 6)) 3) h4 fun b19 =>
(aB (Addr.add (Addr.add a15 (Int.toNat (IntKind.wrap .i64 (x5 - (1 : Int))) * 6)) 4) h4 fun b20 =>
(aI .i64 (Addr.add (Addr.add a15 (Int.toNat (IntKind.wrap .i64 (x5 - (1 : Int))) * 6)) 5) h4 fun n21 =>
(f_region_joins n16 n17 b18 b19 b20 n21 n7 n8 b9 b10 b11 n12 (fun b22 h23 =>
(bsel b22
(Q false h23)
(∃ m3, m3 < m2 ∧ I1 (IntKind.wrap .i64 (x5 + (1 : Int))) m3 h23))) h4)))))))))))))
(∃ m3, m3 < m2 ∧ I1 (IntKind.wrap .i64 (x5 + (1 : Int))) m3 h4)))))))))))))
(Q true h4))))
def region_Good_A : region_Good_T := region_Good_G region_joins_A
def region_Good_W (f : region_Good_T) : ArS [.c .s] EnR := fun p0 K _Kp => f p0 (fun r0 => K (.bool r0))

/- slices.Clone[demesne/region.List,demesne/region.Region] -/
abbrev slices_Clone_region_List_region_Region_T := Sl → (Sl → AH → Prop) → AP
def slices_Clone_region_List_region_Region_A (p0 : Sl) (Q : Sl → AH → Prop) (h : AH) : Prop :=
(bsel (Option.isNone p0.a)
(Q Sl.nil h)
(newA h (.cells #[] 99) fun b1 h2 =>
(apA 6 32 #[(.int .i64 (0 : Int)), (.int .i64 (0 : Int)), (.bool false), (.bool false), (.bool false), (.int .i64 (0 : Int))] 99 (Sl.mk (some (Addr.mk b1 0 none)) 0 0) p0 h2 fun s3 h4 =>
(Q s3 h4))))
def slices_Clone_region_List_region_Region_W (f : slices_Clone_region_List_region_Region_T) : ArS [.c .s] EnR := fun p0 K _Kp => f p0 (fun r0 => K (.slice r0.a r0.len r0.cap))

/- slices.overlaps[demesne/region.Region]: what the model answers at once -/
abbrev slices_overlaps_region_Region_T := Sl → Sl → (Bool → AH → Prop) → AP
def slices_overlaps_region_Region_A : slices_overlaps_region_Region_T := ovA
def slices_overlaps_region_Region_W (f : slices_overlaps_region_Region_T) : ArS [.c .s, .c .s] EnR := fun p0 p1 K _Kp => f p0 p1 (fun r0 => K (.bool r0))

/- slices.Reverse[[]demesne/region.Region,demesne/region.Region] -/
abbrev slices_Reverse_region_Region_region_Region_T := Sl → (AH → Prop) → AP
def slices_Reverse_region_Region_region_Region_A (p0 : Sl) (Q : AH → Prop) (h : AH) : Prop :=
(∃ I1 : Int → Int → Nat → AH → Prop, (∃ m2, I1 (0 : Int) (IntKind.wrap .i64 ((Int.ofNat p0.len) - (1 : Int))) m2 h) ∧ ∀ x5 : Int, ∀ x6 : Int, ∀ m2 h4, I1 x5 x6 m2 h4 → 
(bsel (decide (x5 < x6))
(onSome p0.a fun a7 =>
(inB x6 p0.len
(onSome p0.a fun a8 =>
(inB x5 p0.len
(aI .i64 (Addr.add a7 (Int.toNat x6 * 6)) h4 fun n9 =>
(aI .i64 (Addr.add (Addr.add a7 (Int.toNat x6 * 6)) 1) h4 fun n10 =>
(aB (Addr.add (Addr.add a7 (Int.toNat x6 * 6)) 2) h4 fun b11 =>
(aB (Addr.add (Addr.add a7 (Int.toNat x6 * 6)) 3) h4 fun b12 =>
(aB (Addr.add (Addr.add a7 (Int.toNat x6 * 6)) 4) h4 fun b13 =>
(aI .i64 (Addr.add (Addr.add a7 (Int.toNat x6 * 6)) 5) h4 fun n14 =>
(aI .i64 (Addr.add a8 (Int.toNat x5 * 6)) h4 fun n15 =>
(aI .i64 (Addr.add (Addr.add a8 (Int.toNat x5 * 6)) 1) h4 fun n16 =>
(aB (Addr.add (Addr.add a8 (Int.toNat x5 * 6)) 2) h4 fun b17 =>
(aB (Addr.add (Addr.add a8 (Int.toNat x5 * 6)) 3) h4 fun b18 =>
(aB (Addr.add (Addr.add a8 (Int.toNat x5 * 6)) 4) h4 fun b19 =>
(aI .i64 (Addr.add (Addr.add a8 (Int.toNat x5 * 6)) 5) h4 fun n20 =>
(onSome p0.a fun a21 =>
(inB x5 p0.len
(aC (Addr.add a21 (Int.toNat x5 * 6)) (.int .i64 n9) h4 fun h22 =>
(aC (Addr.add (Addr.add a21 (Int.toNat x5 * 6)) 1) (.int .i64 n10) h22 fun h23 =>
(aC (Addr.add (Addr.add a21 (Int.toNat x5 * 6)) 2) (.bool b11) h23 fun h24 =>
(aC (Addr.add (Addr.add a21 (Int.toNat x5 * 6)) 3) (.bool b12) h24 fun h25 =>
(aC (Addr.add (Addr.add a21 (Int.toNat x5 * 6)) 4) (.bool b13) h25 fun h26 =>
(aC (Addr.add (Addr.add a21 (Int.toNat x5 * 6)) 5) (.int .i64 n14) h26 fun h27 =>
(onSome p0.a fun a28 =>
(inB x6 p0.len
(aC (Addr.add a28 (Int.toNat x6 * 6)) (.int .i64 n15) h27 fun h29 =>
(aC (Addr.add (Addr.add a28 (Int.toNat x6 * 6)) 1) (.int .i64 n16) h29 fun h30 =>
(aC (Addr.add (Addr.add a28 (Int.toNat x6 * 6)) 2) (.bool b17) h30 fun h31 =>
(aC (Addr.add (Addr.add a28 (Int.toNat x6 * 6)) 3) (.bool b18) h31 fun h32 =>
(aC (Addr.add (Addr.add a28 (Int.toNat x6 * 6)) 4) (.bool b19) h32 fun h33 =>
(aC (Addr.add (Addr.add a28 (Int.toNat x6 * 6)) 5) (.int .i64 n20) h33 fun h34 =>
(∃ m3, m3 < m2 ∧ I1 (IntKind.wrap .i64 (x5 + (1 : Int))) (IntKind.wrap .i64 (x6 - (1 : Int))) m3 h34)))))))))))))))))))))))))))))))))
(Q h4)))
def slices_Reverse_region_Region_region_Region_W (f : slices_Reverse_region_Region_region_Region_T) : ArS [.c .s] EnR := fun p0 K _Kp => f p0 (K (.tuple #[]))

/- slices.rotateLeft[demesne/region.Region] -/
abbrev slices_rotateLeft_region_Region_T := Sl → Int → (AH → Prop) → AP
def slices_rotateLeft_region_Region_G (f_slices_Reverse_region_Region_region_Region : slices_Reverse_region_Region_region_Region_T) (p0 : Sl) (p1 : Int) (Q : AH → Prop) (h : AH) : Prop :=
(inB p1 (p0.cap + 1)
(f_slices_Reverse_region_Region_region_Region (Sl.mk (if p0.cap = 0 then p0.a else Option.map (fun x => Addr.add x (0 * 6)) p0.a) (Int.toNat p1) p0.cap) (fun h1 =>
(inB p1 (p0.len + 1)
(f_slices_Reverse_region_Region_region_Region (Sl.mk (if p0.cap = (Int.toNat p1) then p0.a else Option.map (fun x => Addr.add x ((Int.toNat p1) * 6)) p0.a) (p0.len - (Int.toNat p1)) (p0.cap - (Int.toNat p1))) (fun h2 =>
(f_slices_Reverse_region_Region_region_Region p0 (fun h3 =>
(Q h3)) h2)) h1))) h))
def slices_rotateLeft_region_Region_A : slices_rotateLeft_region_Region_T := slices_rotateLeft_region_Region_G slices_Reverse_region_Region_region_Region_A
def slices_rotateLeft_region_Region_W (f : slices_rotateLeft_region_Region_T) : ArS [.c .s, .c (.i .i64)] EnR := fun p0 p1 K _Kp => f p0 p1 (K (.tuple #[]))

/- slices.rotateRight[demesne/region.Region] -/
abbrev slices_rotateRight_region_Region_T := Sl → Int → (AH → Prop) → AP
def slices_rotateRight_region_Region_G (f_slices_rotateLeft_region_Region : slices_rotateLeft_region_Region_T) (p0 : Sl) (p1 : Int) (Q : AH → Prop) (h : AH) : Prop :=
(f_slices_rotateLeft_region_Region p0 (IntKind.wrap .i64 ((Int.ofNat p0.len) - p1)) (fun h1 =>
(Q h1)) h)
def slices_rotateRight_region_Region_A : slices_rotateRight_region_Region_T := slices_rotateRight_region_Region_G slices_rotateLeft_region_Region_A
def slices_rotateRight_region_Region_W (f : slices_rotateRight_region_Region_T) : ArS [.c .s, .c (.i .i64)] EnR := fun p0 p1 K _Kp => f p0 p1 (K (.tuple #[]))

/- slices.Insert[demesne/region.List,demesne/region.Region] -/
abbrev slices_Insert_region_List_region_Region_T := Sl → Int → Sl → (Sl → AH → Prop) → AP
def slices_Insert_region_List_region_Region_G (f_slices_overlaps_region_Region : slices_overlaps_region_Region_T) (f_slices_rotateRight_region_Region : slices_rotateRight_region_Region_T) (p0 : Sl) (p1 : Int) (p2 : Sl) (Q : Sl → AH → Prop) (h : AH) : Prop :=
(inB p1 (p0.len + 1)
(bsel ((Int.ofNat p2.len) == (0 : Int))
(Q p0 h)
(bsel (p1 == (Int.ofNat p0.len))
(apA 6 32 #[(.int .i64 (0 : Int)), (.int .i64 (0 : Int)), (.bool false), (.bool false), (.bool false), (.int .i64 (0 : Int))] 99 p0 p2 h fun s1 h2 =>
(Q s1 h2))
(bsel (decide ((IntKind.wrap .i64 ((Int.ofNat p0.len) + (Int.ofNat p2.len))) > (Int.ofNat p0.cap)))
(inB p1 (p0.cap + 1)
(apZ 6 32 #[(.int .i64 (0 : Int)), (.int .i64 (0 : Int)), (.bool false), (.bool false), (.bool false), (.int .i64 (0 : Int))] 99 (Sl.mk (if p0.cap = 0 then p0.a else Option.map (fun x => Addr.add x (0 * 6)) p0.a) (Int.toNat p1) p0.cap) (IntKind.wrap .i64 ((IntKind.wrap .i64 ((Int.ofNat p0.len) + (Int.ofNat p2.len))) - p1)) h fun s3 h4 =>
(inB p1 (s3.len + 1)
(cpA 6 (Sl.mk (if s3.cap = (Int.toNat p1) then s3.a else Option.map (fun x => Addr.add x ((Int.toNat p1) * 6)) s3.a) (s3.len - (Int.toNat p1)) (s3.cap - (Int.toNat p1))) p2 h4 fun n5 h6 =>
(inB (IntKind.wrap .i64 (p1 + (Int.ofNat p2.len))) (s3.len + 1)
(inB p1 (p0.len + 1)
(cpA 6 (Sl.mk (if s3.cap = (Int.toNat (IntKind.wrap .i64 (p1 + (Int.ofNat p2.len)))) then s3.a else Option.map (fun x => Addr.add x ((Int.toNat (IntKind.wrap .i64 (p1 + (Int.ofNat p2.len)))) * 6)) s3.a) (s3.len - (Int.toNat (IntKind.wrap .i64 (p1 + (Int.ofNat p2.len))))) (s3.cap - (Int.toNat (IntKind.wrap .i64 (p1 + (Int.ofNat p2.len)))))) (Sl.mk (if p0.cap = (Int.toNat p1) then p0.a else Option.map (fun x => Addr.add x ((Int.toNat p1) * 6)) p0.a) (p0.len - (Int.toNat p1)) (p0.cap - (Int.toNat p1))) h6 fun n7 h8 =>
(Q s3 h8))))))))
(inB (IntKind.wrap .i64 ((Int.ofNat p0.len) + (Int.ofNat p2.len))) (p0.cap + 1)
(inB (IntKind.wrap .i64 (p1 + (Int.ofNat p2.len))) ((Int.toNat (IntKind.wrap .i64 ((Int.ofNat p0.len) + (Int.ofNat p2.len)))) + 1)
(f_slices_overlaps_region_Region p2 (Sl.mk (if p0.cap = (Int.toNat (IntKind.wrap .i64 (p1 + (Int.ofNat p2.len)))) then (if p0.cap = 0 then p0.a else Option.map (fun x => Addr.add x (0 * 6)) p0.a) else Option.map (fun x => Addr.add x ((Int.toNat (IntKind.wrap .i64 (p1 + (Int.ofNat p2.len)))) * 6)) (if p0.cap = 0 then p0.a else Option.map (fun x => Addr.add x (0 * 6)) p0.a)) ((Int.toNat (IntKind.wrap .i64 ((Int.ofNat p0.len) + (Int.ofNat p2.len)))) - (Int.toNat (IntKind.wrap .i64 (p1 + (Int.ofNat p2.len))))) (p0.cap - (Int.toNat (IntKind.wrap .i64 (p1 + (Int.ofNat p2.len)))))) (fun b9 h10 =>
(bsel (!b9)
(inB (IntKind.wrap .i64 (p1 + (Int.ofNat p2.len))) ((Int.toNat (IntKind.wrap .i64 ((Int.ofNat p0.len) + (Int.ofNat p2.len)))) + 1)
(inB p1 ((Int.toNat (IntKind.wrap .i64 ((Int.ofNat p0.len) + (Int.ofNat p2.len)))) + 1)
(cpA 6 (Sl.mk (if p0.cap = (Int.toNat (IntKind.wrap .i64 (p1 + (Int.ofNat p2.len)))) then (if p0.cap = 0 then p0.a else Option.map (fun x => Addr.add x (0 * 6)) p0.a) else Option.map (fun x => Addr.add x ((Int.toNat (IntKind.wrap .i64 (p1 + (Int.ofNat p2.len)))) * 6)) (if p0.cap = 0 then p0.a else Option.map (fun x => Addr.add x (0 * 6)) p0.a)) ((Int.toNat (IntKind.wrap .i64 ((Int.ofNat p0.len) + (Int.ofNat p2.len)))) - (Int.toNat (IntKind.wrap .i64 (p1 + (Int.ofNat p2.len))))) (p0.cap - (Int.toNat (IntKind.wrap .i64 (p1 + (Int.ofNat p2.len)))))) (Sl.mk (if p0.cap = (Int.toNat p1) then (if p0.cap = 0 then p0.a else Option.map (fun x => Addr.add x (0 * 6)) p0.a) else Option.map (fun x => Addr.add x ((Int.toNat p1) * 6)) (if p0.cap = 0 then p0.a else Option.map (fun x => Addr.add x (0 * 6)) p0.a)) ((Int.toNat (IntKind.wrap .i64 ((Int.ofNat p0.len) + (Int.ofNat p2.len)))) - (Int.toNat p1)) (p0.cap - (Int.toNat p1))) h10 fun n11 h12 =>
(inB p1 ((Int.toNat (IntKind.wrap .i64 ((Int.ofNat p0.len) + (Int.ofNat p2.len)))) + 1)
(cpA 6 (Sl.mk (if p0.cap = (Int.toNat p1) then (if p0.cap = 0 then p0.a else Option.map (fun x => Addr.add x (0 * 6)) p0.a) else Option.map (fun x => Addr.add x ((Int.toNat p1) * 6)) (if p0.cap = 0 then p0.a else Option.map (fun x => Addr.add x (0 * 6)) p0.a)) ((Int.toNat (IntKind.wrap .i64 ((Int.ofNat p0.len) + (Int.ofNat p2.len)))) - (Int.toNat p1)) (p0.cap - (Int.toNat p1))) p2 h12 fun n13 h14 =>
(Q (Sl.mk (if p0.cap = 0 then p0.a else Option.map (fun x => Addr.add x (0 * 6)) p0.a) (Int.toNat (IntKind.wrap .i64 ((Int.ofNat p0.len) + (Int.ofNat p2.len)))) p0.cap) h14))))))
(inB (Int.ofNat p0.len) ((Int.toNat (IntKind.wrap .i64 ((Int.ofNat p0.len) + (Int.ofNat p2.len)))) + 1)
(cpA 6 (Sl.mk (if p0.cap = (Int.toNat (Int.ofNat p0.len)) then (if p0.cap = 0 then p0.a else Option.map (fun x => Addr.add x (0 * 6)) p0.a) else Option.map (fun x => Addr.add x ((Int.toNat (Int.ofNat p0.len)) * 6)) (if p0.cap = 0 then p0.a else Option.map (fun x => Addr.add x (0 * 6)) p0.a)) ((Int.toNat (IntKind.wrap .i64 ((Int.ofNat p0.len) + (Int.ofNat p2.len)))) - (Int.toNat (Int.ofNat p0.len))) (p0.cap - (Int.toNat (Int.ofNat p0.len)))) p2 h10 fun n15 h16 =>
(inB p1 ((Int.toNat (IntKind.wrap .i64 ((Int.ofNat p0.len) + (Int.ofNat p2.len)))) + 1)
(f_slices_rotateRight_region_Region (Sl.mk (if p0.cap = (Int.toNat p1) then (if p0.cap = 0 then p0.a else Option.map (fun x => Addr.add x (0 * 6)) p0.a) else Option.map (fun x => Addr.add x ((Int.toNat p1) * 6)) (if p0.cap = 0 then p0.a else Option.map (fun x => Addr.add x (0 * 6)) p0.a)) ((Int.toNat (IntKind.wrap .i64 ((Int.ofNat p0.len) + (Int.ofNat p2.len)))) - (Int.toNat p1)) (p0.cap - (Int.toNat p1))) (Int.ofNat p2.len) (fun h17 =>
(Q (Sl.mk (if p0.cap = 0 then p0.a else Option.map (fun x => Addr.add x (0 * 6)) p0.a) (Int.toNat (IntKind.wrap .i64 ((Int.ofNat p0.len) + (Int.ofNat p2.len)))) p0.cap) h17)) h16)))))) h)))))))
def slices_Insert_region_List_region_Region_A : slices_Insert_region_List_region_Region_T := slices_Insert_region_List_region_Region_G slices_overlaps_region_Region_A slices_rotateRight_region_Region_A
def slices_Insert_region_List_region_Region_W (f : slices_Insert_region_List_region_Region_T) : ArS [.c .s, .c (.i .i64), .c .s] EnR := fun p0 p1 p2 K _Kp => f p0 p1 p2 (fun r0 => K (.slice r0.a r0.len r0.cap))

/- demesne/region.merged -/
abbrev region_merged_T := Sl → (Sl → AH → Prop) → AP
def region_merged_G (f_region_joins : region_joins_T) (p0 : Sl) (Q : Sl → AH → Prop) (h : AH) : Prop :=
(∃ I1 : Sl → Int → Nat → AH → Prop, (∃ m2, I1 Sl.nil (0 : Int) m2 h) ∧ ∀ s5 : Sl, ∀ x6 : Int, ∀ m2 h4, I1 s5 x6 m2 h4 → 
(bsel (decide (x6 < (Int.ofNat p0.len)))
(∃ R7 : Sl → AH → Prop, (∀ s34 : Sl, ∀ h35, R7 s34 h35 → 
(∃ m3, m3 < m2 ∧ I1 s34 (IntKind.wrap .i64 (x6 + (1 : Int))) m3 h35)) ∧
(onSome p0.a fun a8 =>
(inB x6 p0.len
(aI .i64 (Addr.add a8 (Int.toNat x6 * 6)) h4 fun n9 =>
(aI .i64 (Addr.add (Addr.add a8 (Int.toNat x6 * 6)) 1) h4 fun n10 =>
(aB (Addr.add (Addr.add a8 (Int.toNat x6 * 6)) 2) h4 fun b11 =>
(aB (Addr.add (Addr.add a8 (Int.toNat x6 * 6)) 3) h4 fun b12 =>
(aB (Addr.add (Addr.add a8 (Int.toNat x6 * 6)) 4) h4 fun b13 =>
(aI .i64 (Addr.add (Addr.add a8 (Int.toNat x6 * 6)) 5) h4 fun n14 =>
(bsel (decide ((Int.ofNat s5.len) > (0 : Int)))
(onSome s5.a fun a15 =>
(inB (IntKind.wrap .i64 ((Int.ofNat s5.len) - (1 : Int))) s5.len
(aI .i64 (Addr.add a15 (Int.toNat (IntKind.wrap .i64 ((Int.ofNat s5.len) - (1 : Int))) * 6)) h4 fun n16 =>
(aI .i64 (Addr.add (Addr.add a15 (Int.toNat (IntKind.wrap .i64 ((Int.ofNat s5.len) - (1 : Int))) * 6)) 1) h4 fun n17 =>
(aB (Addr.add (Addr.add a15 (Int.toNat (IntKind.wrap .i64 ((Int.ofNat s5.len) - (1 : Int))) * 6)) 2) h4 fun b18 =>
(aB (Addr.add (Addr.add a15 (Int.toNat (IntKind.wrap .i64 ((Int.ofNat s5.len) - (1 : Int))) * 6)) 3) h4 fun b19 =>
(aB (Addr.add (Addr.add a15 (Int.toNat (IntKind.wrap .i64 ((Int.ofNat s5.len) - (1 : Int))) * 6)) 4) h4 fun b20 =>
(aI .i64 (Addr.add (Addr.add a15 (Int.toNat (IntKind.wrap .i64 ((Int.ofNat s5.len) - (1 : Int))) * 6)) 5) h4 fun n21 =>
(f_region_joins n16 n17 b18 b19 b20 n21 n9 n10 b11 b12 b13 n14 (fun b22 h23 =>
(bsel b22
(onSome s5.a fun a24 =>
(inB (IntKind.wrap .i64 ((Int.ofNat s5.len) - (1 : Int))) s5.len
(aC (Addr.add (Addr.add a24 (Int.toNat (IntKind.wrap .i64 ((Int.ofNat s5.len) - (1 : Int))) * 6)) 1) (.int .i64 n10) h23 fun h25 =>
(R7 s5 h25))))
(newA h23 (.cells #[(.int .i64 n9), (.int .i64 n10), (.bool b11), (.bool b12), (.bool b13), (.int .i64 n14)] 99) fun b26 h27 =>
(apA 6 32 #[(.int .i64 (0 : Int)), (.int .i64 (0 : Int)), (.bool false), (.bool false), (.bool false), (.int .i64 (0 : Int))] 99 s5 (Sl.mk (some (Addr.mk b26 0 none)) 1 1) h27 fun s28 h29 =>
(R7 s28 h29))))) h4)))))))))
(newA h4 (.cells #[(.int .i64 n9), (.int .i64 n10), (.bool b11), (.bool b12), (.bool b13), (.int .i64 n14)] 99) fun b30 h31 =>
(apA 6 32 #[(.int .i64 (0 : Int)), (.int .i64 (0 : Int)), (.bool false), (.bool false), (.bool false), (.int .i64 (0 : Int))] 99 s5 (Sl.mk (some (Addr.mk b30 0 none)) 1 1) h31 fun s32 h33 =>
(R7 s32 h33)))))))))))))
(Q s5 h4)))
def region_merged_A : region_merged_T := region_merged_G region_joins_A
def region_merged_W (f : region_merged_T) : ArS [.c .s] EnR := fun p0 K _Kp => f p0 (fun r0 => K (.slice r0.a r0.len r0.cap))

/- demesne/region.fits -/
abbrev region_fits_T := Sl → (Sl → Int → AH → Prop) → AP
def region_fits_A (p0 : Sl) (Q : Sl → Int → AH → Prop) (h : AH) : Prop :=
(bsel (decide ((Int.ofNat p0.len) > (64 : Int)))
(Q Sl.nil (4 : Int) h)
(Q p0 (0 : Int) h))
def region_fits_W (f : region_fits_T) : ArS [.c .s] EnR := fun p0 K _Kp => f p0 (fun r0 r1 => K (.tuple #[(.slice r0.a r0.len r0.cap), (.int .i64 r1)]))

/- demesne/region.Add -/
abbrev region_Add_T := Sl → Int → Int → Bool → Bool → Bool → Int → (Sl → Int → AH → Prop) → AP
def region_Add_G (f_region_right : region_right_T) (f_region_Good : region_Good_T) (f_slices_Clone_region_List_region_Region : slices_Clone_region_List_region_Region_T) (f_slices_Insert_region_List_region_Region : slices_Insert_region_List_region_Region_T) (f_region_merged : region_merged_T) (f_region_fits : region_fits_T) (p0 : Sl) (p1 : Int) (p2 : Int) (p3 : Bool) (p4 : Bool) (p5 : Bool) (p6 : Int) (Q : Sl → Int → AH → Prop) (h : AH) : Prop :=
(f_region_right p1 p2 (fun b1 h2 =>
(bsel (!b1)
(Q Sl.nil (1 : Int) h2)
(f_region_Good p0 (fun b3 h4 =>
(bsel (!b3)
(Q Sl.nil (3 : Int) h4)
(∃ I5 : Int → Int → Nat → AH → Prop, (∃ m6, I5 (0 : Int) (0 : Int) m6 h4) ∧ ∀ x9 : Int, ∀ x10 : Int, ∀ m6 h8, I5 x9 x10 m6 h8 → 
(bsel (decide (x10 < (Int.ofNat p0.len)))
(∃ R11 : Int → AH → Prop, (∀ x19 : Int, ∀ h20, R11 x19 h20 → 
(∃ m7, m7 < m6 ∧ I5 x19 (IntKind.wrap .i64 (x10 + (1 : Int))) m7 h20)) ∧
(onSome p0.a fun a12 =>
(inB x10 p0.len
(aI .i64 (Addr.add a12 (Int.toNat x10 * 6)) h8 fun n13 =>
(aI .i64 (Addr.add (Addr.add a12 (Int.toNat x10 * 6)) 1) h8 fun n14 =>
(aB (Addr.add (Addr.add a12 (Int.toNat x10 * 6)) 2) h8 fun b15 =>
(aB (Addr.add (Addr.add a12 (Int.toNat x10 * 6)) 3) h8 fun b16 =>
(aB (Addr.add (Addr.add a12 (Int.toNat x10 * 6)) 4) h8 fun b17 =>
(aI .i64 (Addr.add (Addr.add a12 (Int.toNat x10 * 6)) 5) h8 fun n18 =>
(bsel (decide (n14 ≤ p1))
(R11 (IntKind.wrap .i64 (x10 + (1 : Int))) h8)
(bsel (decide (n13 < p2))
(Q Sl.nil (6 : Int) h8)
(R11 x9 h8))))))))))))
((f_slices_Clone_region_List_region_Region p0 (fun s21 h22 =>
(newA h22 (.cells #[(.int .i64 p1), (.int .i64 p2), (.bool p3), (.bool p4), (.bool p5), (.int .i64 p6)] 99) fun b23 h24 =>
(f_slices_Insert_region_List_region_Region s21 x9 (Sl.mk (some (Addr.mk b23 0 none)) 1 1) (fun s25 h26 =>
(f_region_merged s25 (fun s27 h28 =>
(f_region_fits s27 (fun s29 n30 h31 =>
(Q s29 n30 h31)) h28)) h26)) h24))) h8) ∧
(newA h8 (.cells #[(.int .i64 p1), (.int .i64 p2), (.bool p3), (.bool p4), (.bool p5), (.int .i64 p6)] 99) fun b32 h33 =>
(f_slices_Clone_region_List_region_Region p0 (fun s34 h35 =>
(f_slices_Insert_region_List_region_Region s34 x9 (Sl.mk (some (Addr.mk b32 0 none)) 1 1) (fun s36 h37 =>
(f_region_merged s36 (fun s38 h39 =>
(f_region_fits s38 (fun s40 n41 h42 =>
(Q s40 n41 h42)) h39)) h37)) h35)) h33))))))) h2))) h)
def region_Add_A : region_Add_T := region_Add_G region_right_A region_Good_A slices_Clone_region_List_region_Region_A slices_Insert_region_List_region_Region_A region_merged_A region_fits_A
def region_Add_W (f : region_Add_T) : ArS [.c .s, .agg [(.i .i64), (.i .i64), .b, .b, .b, (.i .i64)]] EnR := fun p0 p1 p2 p3 p4 p5 p6 K _Kp => f p0 p1 p2 p3 p4 p5 p6 (fun r0 r1 => K (.tuple #[(.slice r0.a r0.len r0.cap), (.int .i64 r1)]))

/- (*demesne/space.Machine).Map -/
abbrev space_Machine_Map_T := Option Addr → Int → Int → Int → Bool → Bool → Bool → (Int → AH → Prop) → AP
def space_Machine_Map_G (f_region_Add : region_Add_T) (p0 : Option Addr) (p1 : Int) (p2 : Int) (p3 : Int) (p4 : Bool) (p5 : Bool) (p6 : Bool) (Q : Int → AH → Prop) (h : AH) : Prop :=
(onSome p0 fun a1 =>
(aM (Addr.add a1 6) h fun mp2 =>
(aLk h mp2 .i64 p1 fun o3 =>
(∃ pt4 : Option Addr, ((o3.getD (.pointer none)) : Value) = (.pointer pt4) ∧
(bsel pt4.isNone
(Q (5 : Int) h)
(onSome pt4 fun a5 =>
(aS (Addr.add a5 2) h fun s6 =>
(f_region_Add s6 p2 p3 p4 p5 p6 (0 : Int) (fun s7 n8 h9 =>
(∃ R10 : AH → Prop, (∀ h13, R10 h13 → 
(Q n8 h13)) ∧
(bsel (n8 == (0 : Int))
(onSome pt4 fun a11 =>
(aC (Addr.add a11 2) (.slice s7.a s7.len s7.cap) h9 fun h12 =>
(R10 h12)))
(R10 h9)))) h))))))))
def space_Machine_Map_A : space_Machine_Map_T := space_Machine_Map_G region_Add_A
def space_Machine_Map_W (f : space_Machine_Map_T) : ArS [.c .p, .c (.i .i64), .agg [(.i .i64), (.i .i64)], .agg [.b, .b, .b]] EnR := fun p0 p1 p2 p3 p4 p5 p6 K _Kp => f p0 p1 p2 p3 p4 p5 p6 (fun r0 => K (.int .i64 r0))

/- demesne/cpu.check -/
abbrev cpu_check_T := Int → Int → Int → (AH → Prop) → (Value → AP) → AP
def cpu_check_A (p0 : Int) (p1 : Int) (p2 : Int) (Q : AH → Prop) (Kp : Value → AP) (h : AH) : Prop :=
(bsel (p0 != (0 : Int))
(Kp (.iface 101 (.agg #[(.int .u64 p1), (.int .i64 p2), (.int .i64 p0)])) h)
(Q h))
def cpu_check_W (f : cpu_check_T) : ArS [.c (.i .i64), .agg [(.i .u64), (.i .i64)]] EnR := fun p0 p1 p2 K Kp => f p0 p1 p2 (K (.tuple #[])) Kp

/- (*demesne/tlb.TLB).Evict -/
abbrev tlb_TLB_Evict_T := Option Addr → Int → Int → (Int → AH → Prop) → AP
def tlb_TLB_Evict_A (p0 : Option Addr) (p1 : Int) (p2 : Int) (Q : Int → AH → Prop) (h : AH) : Prop :=
(bsel (decide (p1 < (0 : Int)))
(Q (1 : Int) h)
(bsel (decide (p1 ≥ (8 : Int)))
(Q (1 : Int) h)
(bsel (decide (p2 < (0 : Int)))
(Q (1 : Int) h)
(bsel (decide (p2 ≥ (2 : Int)))
(Q (1 : Int) h)
(onSome p0 fun a1 =>
(inB p1 8
(inB p2 2
(aC (Addr.add (Addr.add a1 (Int.toNat p1 * 18)) (Int.toNat p2 * 9)) (.bool false) h fun h2 =>
(aC (Addr.add (Addr.add (Addr.add a1 (Int.toNat p1 * 18)) (Int.toNat p2 * 9)) 1) (.int .i64 (0 : Int)) h2 fun h3 =>
(aC (Addr.add (Addr.add (Addr.add a1 (Int.toNat p1 * 18)) (Int.toNat p2 * 9)) 2) (.int .i64 (0 : Int)) h3 fun h4 =>
(aC (Addr.add (Addr.add (Addr.add a1 (Int.toNat p1 * 18)) (Int.toNat p2 * 9)) 3) (.int .i64 (0 : Int)) h4 fun h5 =>
(aC (Addr.add (Addr.add (Addr.add a1 (Int.toNat p1 * 18)) (Int.toNat p2 * 9)) 4) (.bool false) h5 fun h6 =>
(aC (Addr.add (Addr.add (Addr.add a1 (Int.toNat p1 * 18)) (Int.toNat p2 * 9)) 5) (.bool false) h6 fun h7 =>
(aC (Addr.add (Addr.add (Addr.add a1 (Int.toNat p1 * 18)) (Int.toNat p2 * 9)) 6) (.bool false) h7 fun h8 =>
(aC (Addr.add (Addr.add (Addr.add a1 (Int.toNat p1 * 18)) (Int.toNat p2 * 9)) 7) (.bool false) h8 fun h9 =>
(aC (Addr.add (Addr.add (Addr.add a1 (Int.toNat p1 * 18)) (Int.toNat p2 * 9)) 8) (.bool false) h9 fun h10 =>
(Q (0 : Int) h10)))))))))))))))))
def tlb_TLB_Evict_W (f : tlb_TLB_Evict_T) : ArS [.c .p, .c (.i .i64), .c (.i .i64)] EnR := fun p0 p1 p2 K _Kp => f p0 p1 p2 (fun r0 => K (.int .i64 r0))

/- (*demesne/cpu.CPU).choose -/
abbrev cpu_CPU_choose_T := Option Addr → (Int → AH → Prop) → AP
def cpu_CPU_choose_G (f_tlb_TLB_Evict : tlb_TLB_Evict_T) (p0 : Option Addr) (Q : Int → AH → Prop) (h : AH) : Prop :=
(∃ R1 : Int → AH → Prop, (∀ x16 : Int, ∀ h17, R1 x16 h17 → 
(∃ R18 : AH → Prop, (∀ h25, R18 h25 → 
(Q (IntKind.wrap .i64 ((Int.tmod (Int.tmod (IntKind.wrap .i64 ((Int.tmod x16 (51 : Int)) + (51 : Int))) (51 : Int)) (3 : Int)) - (1 : Int))) h25)) ∧
(bsel (decide ((IntKind.wrap .i64 ((IntKind.wrap .i64 (Int.tdiv (Int.tmod (IntKind.wrap .i64 ((Int.tmod x16 (51 : Int)) + (51 : Int))) (51 : Int)) (3 : Int))) - (1 : Int))) ≥ (0 : Int)))
(onSome p0 fun a19 =>
(aP a19 h17 fun pt20 =>
(onSome pt20 fun a21 =>
(aP (Addr.add a21 3) h17 fun pt22 =>
(f_tlb_TLB_Evict pt22 (Int.tmod (IntKind.wrap .i64 ((IntKind.wrap .i64 (Int.tdiv (Int.tmod (IntKind.wrap .i64 ((Int.tmod x16 (51 : Int)) + (51 : Int))) (51 : Int)) (3 : Int))) - (1 : Int))) (8 : Int)) (IntKind.wrap .i64 (Int.tdiv (IntKind.wrap .i64 ((IntKind.wrap .i64 (Int.tdiv (Int.tmod (IntKind.wrap .i64 ((Int.tmod x16 (51 : Int)) + (51 : Int))) (51 : Int)) (3 : Int))) - (1 : Int))) (8 : Int))) (fun n23 h24 =>
(R18 h24)) h17)))))
(R18 h17)))) ∧
(onSome p0 fun a2 =>
(aI .i64 (Addr.add a2 2) h fun n3 =>
(onSome p0 fun a4 =>
(aS (Addr.add a4 1) h fun s5 =>
(bsel (decide (n3 < (Int.ofNat s5.len)))
(onSome p0 fun a6 =>
(aS (Addr.add a6 1) h fun s7 =>
(onSome p0 fun a8 =>
(aI .i64 (Addr.add a8 2) h fun n9 =>
(onSome s7.a fun a10 =>
(inB n9 s7.len
(aI .i64 (Addr.add a10 (Int.toNat n9 * 1)) h fun n11 =>
(onSome p0 fun a12 =>
(aI .i64 (Addr.add a12 2) h fun n13 =>
(onSome p0 fun a14 =>
(aC (Addr.add a14 2) (.int .i64 (IntKind.wrap .i64 (n13 + (1 : Int)))) h fun h15 =>
(R1 n11 h15))))))))))))
(R1 (0 : Int) h)))))))
def cpu_CPU_choose_A : cpu_CPU_choose_T := cpu_CPU_choose_G tlb_TLB_Evict_A
def cpu_CPU_choose_W (f : cpu_CPU_choose_T) : ArS [.c .p] EnR := fun p0 K _Kp => f p0 (fun r0 => K (.int .i64 r0))

/- (*demesne/space.Machine).Root -/
abbrev space_Machine_Root_T := Option Addr → Int → (Int → Bool → AH → Prop) → AP
def space_Machine_Root_A (p0 : Option Addr) (p1 : Int) (Q : Int → Bool → AH → Prop) (h : AH) : Prop :=
(onSome p0 fun a1 =>
(aM (Addr.add a1 6) h fun mp2 =>
(aLk h mp2 .i64 p1 fun o3 =>
(∃ pt4 : Option Addr, ((o3.getD (.pointer none)) : Value) = (.pointer pt4) ∧
(bsel (!pt4.isNone)
(onSome pt4 fun a5 =>
(aI .i64 (Addr.add a5 1) h fun n6 =>
(Q n6 true h)))
(Q (0 : Int) false h))))))
def space_Machine_Root_W (f : space_Machine_Root_T) : ArS [.c .p, .c (.i .i64)] EnR := fun p0 p1 K _Kp => f p0 p1 (fun r0 r1 => K (.tuple #[(.int .i64 r0), (.bool r1)]))

/- (*demesne/pcid.Tags).Get -/
abbrev pcid_Tags_Get_T := Option Addr → Int → (Int → Bool → AH → Prop) → AP
def pcid_Tags_Get_G (f_pcid_Tags_begin : pcid_Tags_begin_T) (p0 : Option Addr) (p1 : Int) (Q : Int → Bool → AH → Prop) (h : AH) : Prop :=
(onSome p0 fun a1 =>
(aM (Addr.add a1 4) h fun mp2 =>
(aLk h mp2 .i64 p1 fun o3 =>
(∃ n4 : Int, ((o3.getD (.int .i64 (0 : Int))) : Value) = (.int .i64 n4) ∧
(bsel o3.isSome
(Q n4 false h)
(onSome p0 fun a5 =>
(aI .i64 (Addr.add a5 1) h fun n6 =>
(onSome p0 fun a7 =>
(aI .i64 a7 h fun n8 =>
(∃ R9 : AH → Prop, (∀ h15, R9 h15 → 
(onSome p0 fun a16 =>
(aI .i64 (Addr.add a16 1) h15 fun n17 =>
(onSome p0 fun a18 =>
(aI .i64 (Addr.add a18 1) h15 fun n19 =>
(onSome p0 fun a20 =>
(aC (Addr.add a20 1) (.int .i64 (IntKind.wrap .i64 (n19 + (1 : Int)))) h15 fun h21 =>
(onSome p0 fun a22 =>
(onSome p0 fun a23 =>
(aM (Addr.add a22 4) h21 fun mp24 =>
(aM (Addr.add a23 3) h21 fun mp25 =>
(aMEn h21 mp24 .i64 p1 (.int .i64 (0 : Int)) fun v26 n27 h28 =>
(∃ n29 : Int, (v26 : Value) = (.int .i64 n29) ∧
(aMES h28 mp24 n27 (.int .i64 n17) fun h30 =>
(aMEn h30 mp25 .i64 n17 (.int .i64 (0 : Int)) fun v31 n32 h33 =>
(∃ n34 : Int, (v31 : Value) = (.int .i64 n34) ∧
(aMES h33 mp25 n32 (.int .i64 p1) fun h35 =>
(Q n17 (decide (n6 > n8)) h35)))))))))))))))))) ∧
(bsel (decide (n6 > n8))
(f_pcid_Tags_begin p0 (fun h10 =>
(onSome p0 fun a11 =>
(aI .i64 (Addr.add a11 2) h10 fun n12 =>
(onSome p0 fun a13 =>
(aC (Addr.add a13 2) (.int .i64 (IntKind.wrap .i64 (n12 + (1 : Int)))) h10 fun h14 =>
(R9 h14)))))) h)
(R9 h))))))))))))
def pcid_Tags_Get_A : pcid_Tags_Get_T := pcid_Tags_Get_G pcid_Tags_begin_A
def pcid_Tags_Get_W (f : pcid_Tags_Get_T) : ArS [.c .p, .c (.i .i64)] EnR := fun p0 p1 K _Kp => f p0 p1 (fun r0 r1 => K (.tuple #[(.int .i64 r0), (.bool r1)]))

/- (*demesne/tlb.TLB).All$1 -/
abbrev tlb_TLB_All_1_T := Bool → Int → Int → Int → Bool → Bool → Bool → Bool → Bool → Option Addr → (Bool → AH → Prop) → AP
def tlb_TLB_All_1_A (_p0 : Bool) (_p1 : Int) (_p2 : Int) (_p3 : Int) (_p4 : Bool) (_p5 : Bool) (_p6 : Bool) (p7 : Bool) (_p8 : Bool) (p9 : Option Addr) (Q : Bool → AH → Prop) (h : AH) : Prop :=
(onSome p9 fun a1 =>
(aB a1 h fun b2 =>
(bsel (!b2)
(Q true h)
(Q (!p7) h))))
def tlb_TLB_All_1_W (f : tlb_TLB_All_1_T) : ArS [.agg [.b, (.i .i64), (.i .i64), (.i .i64), .b, .b, .b, .b, .b], .c .p] EnR := fun p0 p1 p2 p3 p4 p5 p6 p7 p8 p9 K _Kp => f p0 p1 p2 p3 p4 p5 p6 p7 p8 p9 (fun r0 => K (.bool r0))

/- (*demesne/tlb.TLB).drop -/
abbrev tlb_TLB_drop_T := Option Addr → Option Addr → (AH → Prop) → AP
def tlb_TLB_drop_G (f_tlb_TLB_All_1 : tlb_TLB_All_1_T) (p0 : Option Addr) (p1 : Option Addr) (Q : AH → Prop) (h : AH) : Prop :=
(∃ I1 : Int → Nat → AH → Prop, (∃ m2, I1 (0 : Int) m2 h) ∧ ∀ x5 : Int, ∀ m2 h4, I1 x5 m2 h4 → 
(bsel (decide (x5 < (8 : Int)))
(∃ I6 : Int → Nat → AH → Prop, (∃ m7, I6 (0 : Int) m7 h4) ∧ ∀ x10 : Int, ∀ m7 h9, I6 x10 m7 h9 → 
(bsel (decide (x10 < (2 : Int)))
(∃ R11 : AH → Prop, (∀ h34, R11 h34 → 
(∃ m8, m8 < m7 ∧ I6 (IntKind.wrap .i64 (x10 + (1 : Int))) m8 h34)) ∧
(onSome p0 fun a12 =>
(inB x5 8
(inB x10 2
(aB (Addr.add (Addr.add a12 (Int.toNat x5 * 18)) (Int.toNat x10 * 9)) h9 fun b13 =>
(aI .i64 (Addr.add (Addr.add (Addr.add a12 (Int.toNat x5 * 18)) (Int.toNat x10 * 9)) 1) h9 fun n14 =>
(aI .i64 (Addr.add (Addr.add (Addr.add a12 (Int.toNat x5 * 18)) (Int.toNat x10 * 9)) 2) h9 fun n15 =>
(aI .i64 (Addr.add (Addr.add (Addr.add a12 (Int.toNat x5 * 18)) (Int.toNat x10 * 9)) 3) h9 fun n16 =>
(aB (Addr.add (Addr.add (Addr.add a12 (Int.toNat x5 * 18)) (Int.toNat x10 * 9)) 4) h9 fun b17 =>
(aB (Addr.add (Addr.add (Addr.add a12 (Int.toNat x5 * 18)) (Int.toNat x10 * 9)) 5) h9 fun b18 =>
(aB (Addr.add (Addr.add (Addr.add a12 (Int.toNat x5 * 18)) (Int.toNat x10 * 9)) 6) h9 fun b19 =>
(aB (Addr.add (Addr.add (Addr.add a12 (Int.toNat x5 * 18)) (Int.toNat x10 * 9)) 7) h9 fun b20 =>
(aB (Addr.add (Addr.add (Addr.add a12 (Int.toNat x5 * 18)) (Int.toNat x10 * 9)) 8) h9 fun b21 =>
(f_tlb_TLB_All_1 b13 n14 n15 n16 b17 b18 b19 b20 b21 p1 (fun b22 h23 =>
(bsel b22
(onSome p0 fun a24 =>
(inB x5 8
(inB x10 2
(aC (Addr.add (Addr.add a24 (Int.toNat x5 * 18)) (Int.toNat x10 * 9)) (.bool false) h23 fun h25 =>
(aC (Addr.add (Addr.add (Addr.add a24 (Int.toNat x5 * 18)) (Int.toNat x10 * 9)) 1) (.int .i64 (0 : Int)) h25 fun h26 =>
(aC (Addr.add (Addr.add (Addr.add a24 (Int.toNat x5 * 18)) (Int.toNat x10 * 9)) 2) (.int .i64 (0 : Int)) h26 fun h27 =>
(aC (Addr.add (Addr.add (Addr.add a24 (Int.toNat x5 * 18)) (Int.toNat x10 * 9)) 3) (.int .i64 (0 : Int)) h27 fun h28 =>
(aC (Addr.add (Addr.add (Addr.add a24 (Int.toNat x5 * 18)) (Int.toNat x10 * 9)) 4) (.bool false) h28 fun h29 =>
(aC (Addr.add (Addr.add (Addr.add a24 (Int.toNat x5 * 18)) (Int.toNat x10 * 9)) 5) (.bool false) h29 fun h30 =>
(aC (Addr.add (Addr.add (Addr.add a24 (Int.toNat x5 * 18)) (Int.toNat x10 * 9)) 6) (.bool false) h30 fun h31 =>
(aC (Addr.add (Addr.add (Addr.add a24 (Int.toNat x5 * 18)) (Int.toNat x10 * 9)) 7) (.bool false) h31 fun h32 =>
(aC (Addr.add (Addr.add (Addr.add a24 (Int.toNat x5 * 18)) (Int.toNat x10 * 9)) 8) (.bool false) h32 fun h33 =>
(R11 h33)))))))))))))
(R11 h23))) h9))))))))))))))
(∃ m3, m3 < m2 ∧ I1 (IntKind.wrap .i64 (x5 + (1 : Int))) m3 h9)))
(Q h4)))
def tlb_TLB_drop_A : tlb_TLB_drop_T := tlb_TLB_drop_G tlb_TLB_All_1_A
def tlb_TLB_drop_W (f : tlb_TLB_drop_T) : ArS [.c .p, .fn 189 [] [.p]] EnR := fun p0 p1 K _Kp => f p0 p1 (K (.tuple #[]))

/- (*demesne/tlb.TLB).All -/
abbrev tlb_TLB_All_T := Option Addr → Bool → (AH → Prop) → AP
def tlb_TLB_All_G (f_tlb_TLB_drop : tlb_TLB_drop_T) (p0 : Option Addr) (p1 : Bool) (Q : AH → Prop) (h : AH) : Prop :=
(newA h (.cells #[(.bool p1)] 4) fun b1 h2 =>
(f_tlb_TLB_drop p0 (some (Addr.mk b1 0 none)) (fun h3 =>
(Q h3)) h2))
def tlb_TLB_All_A : tlb_TLB_All_T := tlb_TLB_All_G tlb_TLB_drop_A
def tlb_TLB_All_W (f : tlb_TLB_All_T) : ArS [.c .p, .c .b] EnR := fun p0 p1 K _Kp => f p0 p1 (K (.tuple #[]))

/- (*demesne/space.Machine).Tag -/
abbrev space_Machine_Tag_T := Option Addr → Int → (Int → AH → Prop) → AP
def space_Machine_Tag_G (f_pcid_Tags_Get : pcid_Tags_Get_T) (f_tlb_TLB_All : tlb_TLB_All_T) (p0 : Option Addr) (p1 : Int) (Q : Int → AH → Prop) (h : AH) : Prop :=
(onSome p0 fun a1 =>
(aP (Addr.add a1 4) h fun pt2 =>
(f_pcid_Tags_Get pt2 p1 (fun n3 b4 h5 =>
(∃ R6 : AH → Prop, (∀ h10, R6 h10 → 
(Q n3 h10)) ∧
(bsel b4
(onSome p0 fun a7 =>
(aP (Addr.add a7 3) h5 fun pt8 =>
(f_tlb_TLB_All pt8 true (fun h9 =>
(R6 h9)) h5)))
(R6 h5)))) h)))
def space_Machine_Tag_A : space_Machine_Tag_T := space_Machine_Tag_G pcid_Tags_Get_A tlb_TLB_All_A
def space_Machine_Tag_W (f : space_Machine_Tag_T) : ArS [.c .p, .c (.i .i64)] EnR := fun p0 p1 K _Kp => f p0 p1 (fun r0 => K (.int .i64 r0))

/- demesne/tlb.set -/
abbrev tlb_set_T := Int → (Int → AH → Prop) → AP
def tlb_set_A (p0 : Int) (Q : Int → AH → Prop) (h : AH) : Prop :=
(Q (bits .and .i64 p0 (7 : Int)) h)
def tlb_set_W (f : tlb_set_T) : ArS [.c (.i .i64)] EnR := fun p0 K _Kp => f p0 (fun r0 => K (.int .i64 r0))

/- (demesne/tlb.Line).fits -/
abbrev tlb_Line_fits_T := Bool → Int → Int → Int → Bool → Bool → Bool → Bool → Bool → Int → Int → (Bool → AH → Prop) → AP
def tlb_Line_fits_A (p0 : Bool) (p1 : Int) (p2 : Int) (_p3 : Int) (_p4 : Bool) (_p5 : Bool) (_p6 : Bool) (p7 : Bool) (_p8 : Bool) (p9 : Int) (p10 : Int) (Q : Bool → AH → Prop) (h : AH) : Prop :=
(bsel p0
(bsel (p2 == p10)
(bsel (p1 == p9)
(Q true h)
(Q p7 h))
(Q false h))
(Q false h))
def tlb_Line_fits_W (f : tlb_Line_fits_T) : ArS [.agg [.b, (.i .i64), (.i .i64), (.i .i64), .b, .b, .b, .b, .b], .c (.i .i64), .c (.i .i64)] EnR := fun p0 p1 p2 p3 p4 p5 p6 p7 p8 p9 p10 K _Kp => f p0 p1 p2 p3 p4 p5 p6 p7 p8 p9 p10 (fun r0 => K (.bool r0))

/- (*demesne/tlb.TLB).Find$1 -/
abbrev tlb_TLB_Find_1_T := Bool → Int → Int → Int → Bool → Bool → Bool → Bool → Bool → Option Addr → Option Addr → (Bool → AH → Prop) → AP
def tlb_TLB_Find_1_G (f_tlb_Line_fits : tlb_Line_fits_T) (p0 : Bool) (p1 : Int) (p2 : Int) (p3 : Int) (p4 : Bool) (p5 : Bool) (p6 : Bool) (p7 : Bool) (p8 : Bool) (p9 : Option Addr) (p10 : Option Addr) (Q : Bool → AH → Prop) (h : AH) : Prop :=
(onSome p9 fun a1 =>
(aI .i64 a1 h fun n2 =>
(onSome p10 fun a3 =>
(aI .i64 a3 h fun n4 =>
(f_tlb_Line_fits p0 p1 p2 p3 p4 p5 p6 p7 p8 n2 n4 (fun b5 h6 =>
(Q b5 h6)) h)))))
def tlb_TLB_Find_1_A : tlb_TLB_Find_1_T := tlb_TLB_Find_1_G tlb_Line_fits_A
def tlb_TLB_Find_1_W (f : tlb_TLB_Find_1_T) : ArS [.agg [.b, (.i .i64), (.i .i64), (.i .i64), .b, .b, .b, .b, .b], .c .p, .c .p] EnR := fun p0 p1 p2 p3 p4 p5 p6 p7 p8 p9 p10 K _Kp => f p0 p1 p2 p3 p4 p5 p6 p7 p8 p9 p10 (fun r0 => K (.bool r0))

/- slices.IndexFunc[[]demesne/tlb.Line,demesne/tlb.Line] -/
abbrev slices_IndexFunc_tlb_Line_tlb_Line_T := Sl → Option Addr → Option Addr → (Int → AH → Prop) → AP
def slices_IndexFunc_tlb_Line_tlb_Line_G (f_tlb_TLB_Find_1 : tlb_TLB_Find_1_T) (p0 : Sl) (p1 : Option Addr) (p2 : Option Addr) (Q : Int → AH → Prop) (h : AH) : Prop :=
(∃ I1 : Int → Nat → AH → Prop, (∃ m2, I1 (0 : Int) m2 h) ∧ ∀ x5 : Int, ∀ m2 h4, I1 x5 m2 h4 → 
(bsel (decide (x5 < (Int.ofNat p0.len)))
(onSome p0.a fun a6 =>
(inB x5 p0.len
(aB (Addr.add a6 (Int.toNat x5 * 9)) h4 fun b7 =>
(aI .i64 (Addr.add (Addr.add a6 (Int.toNat x5 * 9)) 1) h4 fun n8 =>
(aI .i64 (Addr.add (Addr.add a6 (Int.toNat x5 * 9)) 2) h4 fun n9 =>
(aI .i64 (Addr.add (Addr.add a6 (Int.toNat x5 * 9)) 3) h4 fun n10 =>
(aB (Addr.add (Addr.add a6 (Int.toNat x5 * 9)) 4) h4 fun b11 =>
(aB (Addr.add (Addr.add a6 (Int.toNat x5 * 9)) 5) h4 fun b12 =>
(aB (Addr.add (Addr.add a6 (Int.toNat x5 * 9)) 6) h4 fun b13 =>
(aB (Addr.add (Addr.add a6 (Int.toNat x5 * 9)) 7) h4 fun b14 =>
(aB (Addr.add (Addr.add a6 (Int.toNat x5 * 9)) 8) h4 fun b15 =>
(f_tlb_TLB_Find_1 b7 n8 n9 n10 b11 b12 b13 b14 b15 p1 p2 (fun b16 h17 =>
(bsel b16
(Q x5 h17)
(∃ m3, m3 < m2 ∧ I1 (IntKind.wrap .i64 (x5 + (1 : Int))) m3 h17))) h4))))))))))))
(Q (-1 : Int) h4)))
def slices_IndexFunc_tlb_Line_tlb_Line_A : slices_IndexFunc_tlb_Line_tlb_Line_T := slices_IndexFunc_tlb_Line_tlb_Line_G tlb_TLB_Find_1_A
def slices_IndexFunc_tlb_Line_tlb_Line_W (f : slices_IndexFunc_tlb_Line_tlb_Line_T) : ArS [.c .s, .fn 135 [] [.p, .p]] EnR := fun p0 p1 p2 K _Kp => f p0 p1 p2 (fun r0 => K (.int .i64 r0))

/- (*demesne/tlb.TLB).Find -/
abbrev tlb_TLB_Find_T := Option Addr → Int → Int → (Bool → Int → Int → Int → Bool → Bool → Bool → Bool → Bool → Bool → AH → Prop) → AP
def tlb_TLB_Find_G (f_tlb_set : tlb_set_T) (f_slices_IndexFunc_tlb_Line_tlb_Line : slices_IndexFunc_tlb_Line_tlb_Line_T) (p0 : Option Addr) (p1 : Int) (p2 : Int) (Q : Bool → Int → Int → Int → Bool → Bool → Bool → Bool → Bool → Bool → AH → Prop) (h : AH) : Prop :=
(newA h (.cells #[(.int .i64 p1)] 3) fun b1 h2 =>
(newA h2 (.cells #[(.int .i64 p2)] 3) fun b3 h4 =>
(onSome p0 fun a5 =>
(aI .i64 (Addr.mk b3 0 none) h4 fun n6 =>
(f_tlb_set n6 (fun n7 h8 =>
(inB n7 8
(f_slices_IndexFunc_tlb_Line_tlb_Line (Sl.mk (some (Addr.add a5 (Int.toNat n7 * 18))) 2 2) (some (Addr.mk b1 0 none)) (some (Addr.mk b3 0 none)) (fun n9 h10 =>
(bsel (decide (n9 ≥ (0 : Int)))
(inB n9 2
(aB (Addr.add (Addr.add a5 (Int.toNat n7 * 18)) (Int.toNat n9 * 9)) h10 fun b11 =>
(aI .i64 (Addr.add (Addr.add (Addr.add a5 (Int.toNat n7 * 18)) (Int.toNat n9 * 9)) 1) h10 fun n12 =>
(aI .i64 (Addr.add (Addr.add (Addr.add a5 (Int.toNat n7 * 18)) (Int.toNat n9 * 9)) 2) h10 fun n13 =>
(aI .i64 (Addr.add (Addr.add (Addr.add a5 (Int.toNat n7 * 18)) (Int.toNat n9 * 9)) 3) h10 fun n14 =>
(aB (Addr.add (Addr.add (Addr.add a5 (Int.toNat n7 * 18)) (Int.toNat n9 * 9)) 4) h10 fun b15 =>
(aB (Addr.add (Addr.add (Addr.add a5 (Int.toNat n7 * 18)) (Int.toNat n9 * 9)) 5) h10 fun b16 =>
(aB (Addr.add (Addr.add (Addr.add a5 (Int.toNat n7 * 18)) (Int.toNat n9 * 9)) 6) h10 fun b17 =>
(aB (Addr.add (Addr.add (Addr.add a5 (Int.toNat n7 * 18)) (Int.toNat n9 * 9)) 7) h10 fun b18 =>
(aB (Addr.add (Addr.add (Addr.add a5 (Int.toNat n7 * 18)) (Int.toNat n9 * 9)) 8) h10 fun b19 =>
(Q b11 n12 n13 n14 b15 b16 b17 b18 b19 true h10)))))))))))
(Q (false : Bool) (0 : Int) (0 : Int) (0 : Int) (false : Bool) (false : Bool) (false : Bool) (false : Bool) (false : Bool) false h10))) h8))) h4)))))
def tlb_TLB_Find_A : tlb_TLB_Find_T := tlb_TLB_Find_G tlb_set_A slices_IndexFunc_tlb_Line_tlb_Line_A
def tlb_TLB_Find_W (f : tlb_TLB_Find_T) : ArS [.c .p, .c (.i .i64), .c (.i .i64)] EnR := fun p0 p1 p2 K _Kp => f p0 p1 p2 (fun r0 r1 r2 r3 r4 r5 r6 r7 r8 r9 => K (.tuple #[(.agg #[(.bool r0), (.int .i64 r1), (.int .i64 r2), (.int .i64 r3), (.bool r4), (.bool r5), (.bool r6), (.bool r7), (.bool r8)]), (.bool r9)]))

/- demesne/walk.May -/
abbrev walk_May_T := Bool → Bool → Bool → Bool → Bool → Bool → (Bool → AH → Prop) → AP
def walk_May_A (p0 : Bool) (p1 : Bool) (p2 : Bool) (p3 : Bool) (p4 : Bool) (p5 : Bool) (Q : Bool → AH → Prop) (h : AH) : Prop :=
(bsel p3
(bsel (!p0)
(Q false h)
(bsel p4
(bsel (!p1)
(Q false h)
(bsel p5
(Q (!(!p2)) h)
(Q true h)))
(bsel p5
(Q (!(!p2)) h)
(Q true h))))
(bsel p4
(bsel (!p1)
(Q false h)
(bsel p5
(Q (!(!p2)) h)
(Q true h)))
(bsel p5
(Q (!(!p2)) h)
(Q true h))))
def walk_May_W (f : walk_May_T) : ArS [.agg [.b, .b, .b], .agg [.b, .b, .b]] EnR := fun p0 p1 p2 p3 p4 p5 K _Kp => f p0 p1 p2 p3 p4 p5 (fun r0 => K (.bool r0))

/- demesne/region.Find -/
abbrev region_Find_T := Sl → Int → (Int → Int → Bool → Bool → Bool → Int → Bool → AH → Prop) → AP
def region_Find_A (p0 : Sl) (p1 : Int) (Q : Int → Int → Bool → Bool → Bool → Int → Bool → AH → Prop) (h : AH) : Prop :=
(∃ I1 : Int → Int → Int → Bool → Bool → Bool → Int → Nat → AH → Prop, (∃ m2, I1 (0 : Int) (0 : Int) (0 : Int) false false false (0 : Int) m2 h) ∧ ∀ x5 : Int, ∀ c6 : Int, ∀ c7 : Int, ∀ c8 : Bool, ∀ c9 : Bool, ∀ c10 : Bool, ∀ c11 : Int, ∀ m2 h4, I1 x5 c6 c7 c8 c9 c10 c11 m2 h4 → 
(bsel (decide (x5 < (Int.ofNat p0.len)))
(onSome p0.a fun a12 =>
(inB x5 p0.len
(aI .i64 (Addr.add a12 (Int.toNat x5 * 6)) h4 fun n13 =>
(aI .i64 (Addr.add (Addr.add a12 (Int.toNat x5 * 6)) 1) h4 fun n14 =>
(aB (Addr.add (Addr.add a12 (Int.toNat x5 * 6)) 2) h4 fun b15 =>
(aB (Addr.add (Addr.add a12 (Int.toNat x5 * 6)) 3) h4 fun b16 =>
(aB (Addr.add (Addr.add a12 (Int.toNat x5 * 6)) 4) h4 fun b17 =>
(aI .i64 (Addr.add (Addr.add a12 (Int.toNat x5 * 6)) 5) h4 fun n18 =>
(bsel (decide (n13 ≤ p1))
(bsel (decide (p1 < n14))
(Q n13 n14 b15 b16 b17 n18 true h4)
(∃ m3, m3 < m2 ∧ I1 (IntKind.wrap .i64 (x5 + (1 : Int))) c6 c7 c8 c9 c10 c11 m3 h4))
(∃ m3, m3 < m2 ∧ I1 (IntKind.wrap .i64 (x5 + (1 : Int))) c6 c7 c8 c9 c10 c11 m3 h4))))))))))
(Q (0 : Int) (0 : Int) (false : Bool) (false : Bool) (false : Bool) (0 : Int) false h4)))
def region_Find_W (f : region_Find_T) : ArS [.c .s, .c (.i .i64)] EnR := fun p0 p1 K _Kp => f p0 p1 (fun r0 r1 r2 r3 r4 r5 r6 => K (.tuple #[(.agg #[(.int .i64 r0), (.int .i64 r1), (.bool r2), (.bool r3), (.bool r4), (.int .i64 r5)]), (.bool r6)]))

/- demesne/pte.Split -/
abbrev pte_Split_T := Int → (Int → Int → Int → Int → Int → AH → Prop) → AP
def pte_Split_A (p0 : Int) (Q : Int → Int → Int → Int → Int → AH → Prop) (h : AH) : Prop :=
(newA h (.cells #[(.int .i64 (0 : Int)), (.int .i64 (0 : Int)), (.int .i64 (0 : Int)), (.int .i64 (0 : Int))] 172) fun b1 h2 =>
(∃ I3 : Int → Nat → AH → Prop, (∃ m4, I3 (0 : Int) m4 h2) ∧ ∀ x7 : Int, ∀ m4 h6, I3 x7 m4 h6 → 
(bsel (decide (x7 < (4 : Int)))
(bsel (decide ((IntKind.wrap .i64 ((39 : Int) - (IntKind.wrap .i64 ((9 : Int) * x7)))) < 0)) False
(inB x7 4
(aC (Addr.add (Addr.mk b1 0 none) (Int.toNat x7 * 1)) (.int .i64 (IntKind.wrap .i64 (bits .and .u64 (Int.fdiv p0 (2 ^ (min (Int.toNat (IntKind.wrap .i64 ((39 : Int) - (IntKind.wrap .i64 ((9 : Int) * x7))))) 64))) (511 : Int)))) h6 fun h8 =>
(∃ m5, m5 < m4 ∧ I3 (IntKind.wrap .i64 (x7 + (1 : Int))) m5 h8))))
(aI .i64 (Addr.mk b1 0 none) h6 fun n9 =>
(aI .i64 (Addr.add (Addr.mk b1 0 none) 1) h6 fun n10 =>
(aI .i64 (Addr.add (Addr.mk b1 0 none) 2) h6 fun n11 =>
(aI .i64 (Addr.add (Addr.mk b1 0 none) 3) h6 fun n12 =>
(Q n9 n10 n11 n12 (IntKind.wrap .i64 (bits .and .u64 p0 (4095 : Int))) h6))))))))
def pte_Split_W (f : pte_Split_T) : ArS [.c (.i .u64)] EnR := fun p0 K _Kp => f p0 (fun r0 r1 r2 r3 r4 => K (.tuple #[(.agg #[(.int .i64 r0), (.int .i64 r1), (.int .i64 r2), (.int .i64 r3)]), (.int .i64 r4)]))

/- demesne/table.path -/
abbrev table_path_T := Int → (Int → Int → Int → Int → AH → Prop) → AP
def table_path_G (f_pte_Split : pte_Split_T) (p0 : Int) (Q : Int → Int → Int → Int → AH → Prop) (h : AH) : Prop :=
(f_pte_Split (IntKind.wrap .u64 ((IntKind.wrap .u64 p0) * (4096 : Int))) (fun n1 n2 n3 n4 n5 h6 =>
(Q n1 n2 n3 n4 h6)) h)
def table_path_A : table_path_T := table_path_G pte_Split_A
def table_path_W (f : table_path_T) : ArS [.c (.i .i64)] EnR := fun p0 K _Kp => f p0 (fun r0 r1 r2 r3 => K (.agg #[(.int .i64 r0), (.int .i64 r1), (.int .i64 r2), (.int .i64 r3)]))

/- (*demesne/ram.RAM).Load -/
abbrev ram_RAM_Load_T := Option Addr → Int → Int → (Int → Int → AH → Prop) → AP
def ram_RAM_Load_G (f_ram_RAM_check : ram_RAM_check_T) (p0 : Option Addr) (p1 : Int) (p2 : Int) (Q : Int → Int → AH → Prop) (h : AH) : Prop :=
(f_ram_RAM_check p0 p1 p2 (fun n1 h2 =>
(bsel (n1 != (0 : Int))
(Q (0 : Int) n1 h2)
(∃ I3 : Int → Int → Nat → AH → Prop, (∃ m4, I3 (0 : Int) (IntKind.wrap .i64 (p2 - (1 : Int))) m4 h2) ∧ ∀ x7 : Int, ∀ x8 : Int, ∀ m4 h6, I3 x7 x8 m4 h6 → 
(bsel (decide (x8 ≥ (0 : Int)))
(∃ R9 : Int → AH → Prop, (∀ x16 : Int, ∀ h17, R9 x16 h17 → 
(∃ m5, m5 < m4 ∧ I3 x16 (IntKind.wrap .i64 (x8 - (1 : Int))) m5 h17)) ∧
(onSome p0 fun a10 =>
(aM (Addr.add a10 2) h6 fun mp11 =>
(aLk h6 mp11 .i64 (IntKind.wrap .i64 (IntKind.wrap .u64 (Int.tdiv (IntKind.wrap .u64 (p1 + (IntKind.wrap .u64 x8))) (4096 : Int)))) fun o12 =>
(∃ pt13 : Option Addr, ((o12.getD (.pointer none)) : Value) = (.pointer pt13) ∧
(bsel (!pt13.isNone)
(onSome pt13 fun a14 =>
(inB (Int.tmod (IntKind.wrap .u64 (p1 + (IntKind.wrap .u64 x8))) (4096 : Int)) 4096
(aI .u8 (Addr.add a14 (Int.toNat (Int.tmod (IntKind.wrap .u64 (p1 + (IntKind.wrap .u64 x8))) (4096 : Int)) * 1)) h6 fun n15 =>
(R9 (bits .or .u64 (IntKind.wrap .u64 (x7 * 2 ^ (8 : Nat))) (IntKind.wrap .u64 n15)) h6))))
(R9 (IntKind.wrap .u64 (x7 * 2 ^ (8 : Nat))) h6)))))))
(Q x7 (0 : Int) h6))))) h)
def ram_RAM_Load_A : ram_RAM_Load_T := ram_RAM_Load_G ram_RAM_check_A
def ram_RAM_Load_W (f : ram_RAM_Load_T) : ArS [.c .p, .c (.i .u64), .c (.i .i64)] EnR := fun p0 p1 p2 K _Kp => f p0 p1 p2 (fun r0 r1 => K (.tuple #[(.int .u64 r0), (.int .i64 r1)]))

/- demesne/pte.Unpack -/
abbrev pte_Unpack_T := Int → (Bool → Bool → Bool → Bool → Bool → Bool → Bool → Bool → Int → AH → Prop) → AP
def pte_Unpack_G (f_pte_Entry_flags : pte_Entry_flags_T) (f_pte_places : pte_places_T) (p0 : Int) (Q : Bool → Bool → Bool → Bool → Bool → Bool → Bool → Bool → Int → AH → Prop) (h : AH) : Prop :=
(newA h (.cells #[(.bool false), (.bool false), (.bool false), (.bool false), (.bool false), (.bool false), (.bool false), (.bool false), (.int .i64 (0 : Int))] 146) fun b1 h2 =>
(aC (Addr.mk b1 0 none) (.bool false) h2 fun h3 =>
(aC (Addr.add (Addr.mk b1 0 none) 1) (.bool false) h3 fun h4 =>
(aC (Addr.add (Addr.mk b1 0 none) 2) (.bool false) h4 fun h5 =>
(aC (Addr.add (Addr.mk b1 0 none) 3) (.bool false) h5 fun h6 =>
(aC (Addr.add (Addr.mk b1 0 none) 4) (.bool false) h6 fun h7 =>
(aC (Addr.add (Addr.mk b1 0 none) 5) (.bool false) h7 fun h8 =>
(aC (Addr.add (Addr.mk b1 0 none) 6) (.bool false) h8 fun h9 =>
(aC (Addr.add (Addr.mk b1 0 none) 7) (.bool false) h9 fun h10 =>
(aC (Addr.add (Addr.mk b1 0 none) 8) (.int .i64 (IntKind.wrap .i64 (bits .and .u64 (Int.fdiv p0 (2 ^ (12 : Nat))) (1048575 : Int)))) h10 fun h11 =>
(f_pte_Entry_flags (some (Addr.mk b1 0 none)) (fun pt12 pt13 pt14 pt15 pt16 pt17 pt18 pt19 h20 =>
(∃ I21 : Int → Nat → AH → Prop, (∃ m22, I21 (0 : Int) m22 h20) ∧ ∀ x25 : Int, ∀ m22 h24, I21 x25 m22 h24 → 
(bsel (decide (x25 < (8 : Int)))
(inB x25 8
(geP [(.pointer pt12), (.pointer pt13), (.pointer pt14), (.pointer pt15), (.pointer pt16), (.pointer pt17), (.pointer pt18), (.pointer pt19)] (Int.toNat x25) fun n26 =>
(f_pte_places (fun n27 n28 n29 n30 n31 n32 n33 n34 h35 =>
(inB x25 8
(geI .i64 [(.int .i64 n27), (.int .i64 n28), (.int .i64 n29), (.int .i64 n30), (.int .i64 n31), (.int .i64 n32), (.int .i64 n33), (.int .i64 n34)] (Int.toNat x25) fun n36 =>
(bsel (decide (n36 < 0)) False
(onSome n26 fun a37 =>
(aC a37 (.bool ((bits .and .u64 (Int.fdiv p0 (2 ^ (min (Int.toNat n36) 64))) (1 : Int)) == (1 : Int))) h35 fun h38 =>
(∃ m23, m23 < m22 ∧ I21 (IntKind.wrap .i64 (x25 + (1 : Int))) m23 h38))))))) h24)))
(aB (Addr.mk b1 0 none) h24 fun b39 =>
(aB (Addr.add (Addr.mk b1 0 none) 1) h24 fun b40 =>
(aB (Addr.add (Addr.mk b1 0 none) 2) h24 fun b41 =>
(aB (Addr.add (Addr.mk b1 0 none) 3) h24 fun b42 =>
(aB (Addr.add (Addr.mk b1 0 none) 4) h24 fun b43 =>
(aB (Addr.add (Addr.mk b1 0 none) 5) h24 fun b44 =>
(aB (Addr.add (Addr.mk b1 0 none) 6) h24 fun b45 =>
(aB (Addr.add (Addr.mk b1 0 none) 7) h24 fun b46 =>
(aI .i64 (Addr.add (Addr.mk b1 0 none) 8) h24 fun n47 =>
(Q b39 b40 b41 b42 b43 b44 b45 b46 n47 h24))))))))))))) h11)))))))))))
def pte_Unpack_A : pte_Unpack_T := pte_Unpack_G pte_Entry_flags_A pte_places_A
def pte_Unpack_W (f : pte_Unpack_T) : ArS [.c (.i .u64)] EnR := fun p0 K _Kp => f p0 (fun r0 r1 r2 r3 r4 r5 r6 r7 r8 => K (.agg #[(.bool r0), (.bool r1), (.bool r2), (.bool r3), (.bool r4), (.bool r5), (.bool r6), (.bool r7), (.int .i64 r8)]))

/- (demesne/table.Purse).get -/
abbrev table_Purse_get_T := Option Addr → Option Addr → Option Addr → Int → Int → Int → (Bool → Bool → Bool → Bool → Bool → Bool → Bool → Bool → Int → AH → Prop) → AP
def table_Purse_get_G (f_table_place : table_place_T) (f_ram_RAM_Load : ram_RAM_Load_T) (f_pte_Unpack : pte_Unpack_T) (p0 : Option Addr) (_p1 : Option Addr) (_p2 : Option Addr) (_p3 : Int) (p4 : Int) (p5 : Int) (Q : Bool → Bool → Bool → Bool → Bool → Bool → Bool → Bool → Int → AH → Prop) (h : AH) : Prop :=
(f_table_place p4 p5 (fun n1 h2 =>
(f_ram_RAM_Load p0 n1 (8 : Int) (fun n3 n4 h5 =>
(f_pte_Unpack n3 (fun b6 b7 b8 b9 b10 b11 b12 b13 n14 h15 =>
(Q b6 b7 b8 b9 b10 b11 b12 b13 n14 h15)) h5)) h2)) h)
def table_Purse_get_A : table_Purse_get_T := table_Purse_get_G table_place_A ram_RAM_Load_A pte_Unpack_A
def table_Purse_get_W (f : table_Purse_get_T) : ArS [.agg [.p, .p, .p, (.i .i64)], .c (.i .i64), .c (.i .i64)] EnR := fun p0 p1 p2 p3 p4 p5 K _Kp => f p0 p1 p2 p3 p4 p5 (fun r0 r1 r2 r3 r4 r5 r6 r7 r8 => K (.agg #[(.bool r0), (.bool r1), (.bool r2), (.bool r3), (.bool r4), (.bool r5), (.bool r6), (.bool r7), (.int .i64 r8)]))

/- (demesne/table.Purse).down -/
abbrev table_Purse_down_T := Option Addr → Option Addr → Option Addr → Int → Int → Int → (Sl → AH → Prop) → AP
def table_Purse_down_G (f_table_path : table_path_T) (f_table_Purse_get : table_Purse_get_T) (p0 : Option Addr) (p1 : Option Addr) (p2 : Option Addr) (p3 : Int) (p4 : Int) (p5 : Int) (Q : Sl → AH → Prop) (h : AH) : Prop :=
(f_table_path p5 (fun n1 n2 n3 n4 h5 =>
(newA h5 (.cells #[(.int .i64 (0 : Int)), (.int .i64 (0 : Int)), (.int .i64 (0 : Int)), (.int .i64 (0 : Int))] 172) fun b6 h7 =>
(aC (Addr.mk b6 0 none) (.int .i64 n1) h7 fun h8 =>
(aC (Addr.add (Addr.mk b6 0 none) 1) (.int .i64 n2) h8 fun h9 =>
(aC (Addr.add (Addr.mk b6 0 none) 2) (.int .i64 n3) h9 fun h10 =>
(aC (Addr.add (Addr.mk b6 0 none) 3) (.int .i64 n4) h10 fun h11 =>
(newA h11 (.cells #[(.int .i64 p4)] 3) fun b12 h13 =>
(∃ R14 : Sl → AH → Prop, (∀ s38 : Sl, ∀ h39, R14 s38 h39 → 
(Q s38 h39)) ∧
(∃ I15 : Sl → Int → Nat → AH → Prop, (∃ m16, I15 (Sl.mk (some (Addr.mk b12 0 none)) 1 1) (0 : Int) m16 h13) ∧ ∀ s19 : Sl, ∀ x20 : Int, ∀ m16 h18, I15 s19 x20 m16 h18 → 
(bsel (decide (x20 < (3 : Int)))
(onSome s19.a fun a21 =>
(inB x20 s19.len
(inB x20 4
(aI .i64 (Addr.add a21 (Int.toNat x20 * 1)) h18 fun n22 =>
(aI .i64 (Addr.add (Addr.mk b6 0 none) (Int.toNat x20 * 1)) h18 fun n23 =>
(f_table_Purse_get p0 p1 p2 p3 n22 n23 (fun b24 b25 b26 b27 b28 b29 b30 b31 n32 h33 =>
(bsel (!b24)
(R14 s19 h33)
(newA h33 (.cells #[(.int .i64 n32)] 3) fun b34 h35 =>
(apA 1 8 #[(.int .i64 (0 : Int))] 3 s19 (Sl.mk (some (Addr.mk b34 0 none)) 1 1) h35 fun s36 h37 =>
(∃ m17, m17 < m16 ∧ I15 s36 (IntKind.wrap .i64 (x20 + (1 : Int))) m17 h37))))) h18))))))
(R14 s19 h18))))))))))) h)
def table_Purse_down_A : table_Purse_down_T := table_Purse_down_G table_path_A table_Purse_get_A
def table_Purse_down_W (f : table_Purse_down_T) : ArS [.agg [.p, .p, .p, (.i .i64)], .c (.i .i64), .c (.i .i64)] EnR := fun p0 p1 p2 p3 p4 p5 K _Kp => f p0 p1 p2 p3 p4 p5 (fun r0 => K (.slice r0.a r0.len r0.cap))

/- demesne/table.Query -/
abbrev table_Query_T := Option Addr → Option Addr → Option Addr → Int → Int → Int → (Int → Bool → Bool → Bool → Bool → AH → Prop) → AP
def table_Query_G (f_table_Purse_down : table_Purse_down_T) (f_table_path : table_path_T) (f_table_Purse_get : table_Purse_get_T) (p0 : Option Addr) (p1 : Option Addr) (p2 : Option Addr) (p3 : Int) (p4 : Int) (p5 : Int) (Q : Int → Bool → Bool → Bool → Bool → AH → Prop) (h : AH) : Prop :=
(∃ R1 : Bool → Bool → Bool → AH → Prop, (∀ c2 : Bool, ∀ c3 : Bool, ∀ c4 : Bool, ∀ h5, R1 c2 c3 c4 h5 → 
(f_table_Purse_down p0 p1 p2 p3 p4 p5 (fun s6 h7 =>
(bsel (decide ((Int.ofNat s6.len) < (4 : Int)))
(Q (0 : Int) (false : Bool) (false : Bool) (false : Bool) false h7)
(onSome s6.a fun a8 =>
(inB (3 : Int) s6.len
(aI .i64 (Addr.add a8 3) h7 fun n9 =>
(f_table_path p5 (fun n10 n11 n12 n13 h14 =>
((aI .i64 (Addr.add a8 3) h14 fun n15 =>
(((.int .i64 n15) : Value) = (.int .i64 n9))) ∧
(geI .i64 [(.int .i64 n10), (.int .i64 n11), (.int .i64 n12), (.int .i64 n13)] 3 fun n16 =>
(f_table_Purse_get p0 p1 p2 p3 n9 n16 (fun b17 b18 b19 b20 b21 b22 b23 b24 n25 h26 =>
(bsel (!b17)
(Q (0 : Int) (false : Bool) (false : Bool) (false : Bool) false h26)
(Q n25 b18 b19 ((!b24) : Bool) true h26))) h14)))) h7)))))) h5)) ∧
(bsel (decide (p5 < (0 : Int)))
(Q (0 : Int) (false : Bool) (false : Bool) (false : Bool) false h)
(bsel (decide (p5 ≥ (34359738368 : Int)))
(Q (0 : Int) (false : Bool) (false : Bool) (false : Bool) false h)
(R1 false false false h))))
def table_Query_A : table_Query_T := table_Query_G table_Purse_down_A table_path_A table_Purse_get_A
def table_Query_W (f : table_Query_T) : ArS [.agg [.p, .p, .p, (.i .i64)], .c (.i .i64), .c (.i .i64)] EnR := fun p0 p1 p2 p3 p4 p5 K _Kp => f p0 p1 p2 p3 p4 p5 (fun r0 r1 r2 r3 r4 => K (.tuple #[(.int .i64 r0), (.agg #[(.bool r1), (.bool r2), (.bool r3)]), (.bool r4)]))

/- demesne/table.leaf -/
abbrev table_leaf_T := Int → Bool → Bool → Bool → (Bool → Bool → Bool → Bool → Bool → Bool → Bool → Bool → Int → AH → Prop) → AP
def table_leaf_A (p0 : Int) (p1 : Bool) (p2 : Bool) (p3 : Bool) (Q : Bool → Bool → Bool → Bool → Bool → Bool → Bool → Bool → Int → AH → Prop) (h : AH) : Prop :=
(Q (true : Bool) p1 p2 (false : Bool) (false : Bool) (false : Bool) (false : Bool) ((!p3) : Bool) p0 h)
def table_leaf_W (f : table_leaf_T) : ArS [.c (.i .i64), .agg [.b, .b, .b]] EnR := fun p0 p1 p2 p3 K _Kp => f p0 p1 p2 p3 (fun r0 r1 r2 r3 r4 r5 r6 r7 r8 => K (.agg #[(.bool r0), (.bool r1), (.bool r2), (.bool r3), (.bool r4), (.bool r5), (.bool r6), (.bool r7), (.int .i64 r8)]))

/- demesne/table.Map -/
abbrev table_Map_T := Option Addr → Option Addr → Option Addr → Int → Int → Int → Int → Bool → Bool → Bool → (Int → AH → Prop) → AP
def table_Map_G (f_table_path : table_path_T) (f_table_Purse_down : table_Purse_down_T) (f_table_Purse_get : table_Purse_get_T) (f_table_Purse_Take : table_Purse_Take_T) (f_table_Purse_Give : table_Purse_Give_T) (f_table_Purse_put : table_Purse_put_T) (f_table_leaf : table_leaf_T) (p0 : Option Addr) (p1 : Option Addr) (p2 : Option Addr) (p3 : Int) (p4 : Int) (p5 : Int) (p6 : Int) (p7 : Bool) (p8 : Bool) (p9 : Bool) (Q : Int → AH → Prop) (h : AH) : Prop :=
(∃ R1 : AH → Prop, (∀ h2, R1 h2 → 
(f_table_path p5 (fun n3 n4 n5 n6 h7 =>
(f_table_Purse_down p0 p1 p2 p3 p4 p5 (fun s8 h9 =>
(newA h9 (.cells #[(.int .i64 (0 : Int)), (.int .i64 (0 : Int)), (.int .i64 (0 : Int)), (.int .i64 (0 : Int))] 172) fun b10 h11 =>
(aC (Addr.mk b10 0 none) (.int .i64 n3) h11 fun h12 =>
(aC (Addr.add (Addr.mk b10 0 none) 1) (.int .i64 n4) h12 fun h13 =>
(aC (Addr.add (Addr.mk b10 0 none) 2) (.int .i64 n5) h13 fun h14 =>
(aC (Addr.add (Addr.mk b10 0 none) 3) (.int .i64 n6) h14 fun h15 =>
(∃ R16 : AH → Prop, (∀ h30, R16 h30 → 
(∃ I31 : Sl → Int → Nat → AH → Prop, (∃ m32, I31 Sl.nil (0 : Int) m32 h30) ∧ ∀ s35 : Sl, ∀ x36 : Int, ∀ m32 h34, I31 s35 x36 m32 h34 → 
(bsel (decide (x36 < (IntKind.wrap .i64 ((4 : Int) - (Int.ofNat s8.len)))))
(f_table_Purse_Take p0 p1 p2 p3 (fun n37 n38 h39 =>
(bsel (n38 != (0 : Int))
(∃ I40 : Int → Nat → AH → Prop, (∃ m41, I40 (0 : Int) m41 h39) ∧ ∀ x44 : Int, ∀ m41 h43, I40 x44 m41 h43 → 
(bsel (decide (x44 < (Int.ofNat s35.len)))
(onSome s35.a fun a45 =>
(inB x44 s35.len
(aI .i64 (Addr.add a45 (Int.toNat x44 * 1)) h43 fun n46 =>
(f_table_Purse_Give p0 p1 p2 p3 n46 (fun h47 =>
(∃ m42, m42 < m41 ∧ I40 (IntKind.wrap .i64 (x44 + (1 : Int))) m42 h47)) h43))))
(Q n38 h43)))
(newA h39 (.cells #[(.int .i64 n37)] 3) fun b48 h49 =>
(apA 1 8 #[(.int .i64 (0 : Int))] 3 s35 (Sl.mk (some (Addr.mk b48 0 none)) 1 1) h49 fun s50 h51 =>
(∃ m33, m33 < m32 ∧ I31 s50 (IntKind.wrap .i64 (x36 + (1 : Int))) m33 h51))))) h34)
(∃ I52 : Sl → Int → Nat → AH → Prop, (∃ m53, I52 s8 (0 : Int) m53 h34) ∧ ∀ s56 : Sl, ∀ x57 : Int, ∀ m53 h55, I52 s56 x57 m53 h55 → 
(bsel (decide (x57 < (Int.ofNat s35.len)))
(onSome s35.a fun a58 =>
(inB x57 s35.len
(aI .i64 (Addr.add a58 (Int.toNat x57 * 1)) h55 fun n59 =>
(onSome s56.a fun a60 =>
(inB (IntKind.wrap .i64 ((Int.ofNat s56.len) - (1 : Int))) s56.len
(aI .i64 (Addr.add a60 (Int.toNat (IntKind.wrap .i64 ((Int.ofNat s56.len) - (1 : Int))) * 1)) h55 fun n61 =>
(inB (IntKind.wrap .i64 ((Int.ofNat s56.len) - (1 : Int))) 4
(aI .i64 (Addr.add (Addr.mk b10 0 none) (Int.toNat (IntKind.wrap .i64 ((Int.ofNat s56.len) - (1 : Int))) * 1)) h55 fun n62 =>
(f_table_Purse_put p0 p1 p2 p3 n61 n62 true true true false false false false false n59 (fun h63 =>
(newA h63 (.cells #[(.int .i64 n59)] 3) fun b64 h65 =>
(apA 1 8 #[(.int .i64 (0 : Int))] 3 s56 (Sl.mk (some (Addr.mk b64 0 none)) 1 1) h65 fun s66 h67 =>
(∃ m54, m54 < m53 ∧ I52 s66 (IntKind.wrap .i64 (x57 + (1 : Int))) m54 h67)))) h55)))))))))
(onSome s56.a fun a68 =>
(inB (3 : Int) s56.len
(aI .i64 (Addr.add a68 3) h55 fun n69 =>
(aI .i64 (Addr.add (Addr.mk b10 0 none) 3) h55 fun n70 =>
(f_table_leaf p6 p7 p8 p9 (fun b71 b72 b73 b74 b75 b76 b77 b78 n79 h80 =>
((aI .i64 (Addr.add (Addr.mk b10 0 none) 3) h80 fun n81 =>
(((.int .i64 n81) : Value) = (.int .i64 n70))) ∧
((aI .i64 (Addr.add a68 3) h80 fun n82 =>
(((.int .i64 n82) : Value) = (.int .i64 n69))) ∧
(f_table_Purse_put p0 p1 p2 p3 n69 n70 b71 b72 b73 b74 b75 b76 b77 b78 n79 (fun h83 =>
(Q (0 : Int) h83)) h80)))) h55)))))))))) ∧
(bsel ((Int.ofNat s8.len) == (4 : Int))
(onSome s8.a fun a17 =>
(inB (3 : Int) s8.len
(aI .i64 (Addr.add a17 3) h15 fun n18 =>
(aI .i64 (Addr.add (Addr.mk b10 0 none) 3) h15 fun n19 =>
(f_table_Purse_get p0 p1 p2 p3 n18 n19 (fun b20 b21 b22 b23 b24 b25 b26 b27 n28 h29 =>
(bsel b20
(Q (6 : Int) h29)
(R16 h29))) h15)))))
(R16 h15))))))))) h7)) h2)) ∧
(bsel (decide (p5 < (0 : Int)))
(Q (1 : Int) h)
(bsel (decide (p5 ≥ (34359738368 : Int)))
(Q (1 : Int) h)
(bsel (decide (p6 < (0 : Int)))
(Q (1 : Int) h)
(bsel (decide (p6 ≥ (1048576 : Int)))
(Q (1 : Int) h)
(R1 h))))))
def table_Map_A : table_Map_T := table_Map_G table_path_A table_Purse_down_A table_Purse_get_A table_Purse_Take_A table_Purse_Give_A table_Purse_put_A table_leaf_A
def table_Map_W (f : table_Map_T) : ArS [.agg [.p, .p, .p, (.i .i64)], .c (.i .i64), .c (.i .i64), .c (.i .i64), .agg [.b, .b, .b]] EnR := fun p0 p1 p2 p3 p4 p5 p6 p7 p8 p9 K _Kp => f p0 p1 p2 p3 p4 p5 p6 p7 p8 p9 (fun r0 => K (.int .i64 r0))

/- (*demesne/space.Machine).Touch -/
abbrev space_Machine_Touch_T := Option Addr → Int → Int → Bool → Bool → Bool → (Int → Int → Int → AH → Prop) → AP
def space_Machine_Touch_G (f_region_Find : region_Find_T) (f_space_Machine_purse : space_Machine_purse_T) (f_table_Query : table_Query_T) (f_walk_May : walk_May_T) (f_table_Purse_Take : table_Purse_Take_T) (f_table_Map : table_Map_T) (f_table_Purse_Give : table_Purse_Give_T) (p0 : Option Addr) (p1 : Int) (p2 : Int) (p3 : Bool) (p4 : Bool) (p5 : Bool) (Q : Int → Int → Int → AH → Prop) (h : AH) : Prop :=
(onSome p0 fun a1 =>
(aM (Addr.add a1 6) h fun mp2 =>
(aLk h mp2 .i64 p1 fun o3 =>
(∃ pt4 : Option Addr, ((o3.getD (.pointer none)) : Value) = (.pointer pt4) ∧
(bsel pt4.isNone
(Q (0 : Int) (0 : Int) (5 : Int) h)
(newA h (.cells #[(.bool p3), (.bool p4)] 4) fun b5 h6 =>
(∃ I7 : Int → Int → Nat → AH → Prop, (∃ m8, I7 (0 : Int) (0 : Int) m8 h6) ∧ ∀ x11 : Int, ∀ x12 : Int, ∀ m8 h10, I7 x11 x12 m8 h10 → 
(bsel (decide (x12 < (2 : Int)))
(∃ R13 : Int → AH → Prop, (∀ x15 : Int, ∀ h16, R13 x15 h16 → 
(∃ m9, m9 < m8 ∧ I7 x15 (IntKind.wrap .i64 (x12 + (1 : Int))) m9 h16)) ∧
(inB x12 2
(aB (Addr.add (Addr.mk b5 0 none) (Int.toNat x12 * 1)) h10 fun b14 =>
(bsel b14
(bsel (decide (x12 < 0)) False
(R13 (bits .or .i64 x11 (IntKind.wrap .i64 ((2 : Int) * 2 ^ (min (Int.toNat x12) 64)))) h10))
(R13 x11 h10)))))
(∃ R17 : Int → AH → Prop, (∀ x18 : Int, ∀ h19, R17 x18 h19 → 
(onSome pt4 fun a20 =>
(aS (Addr.add a20 2) h19 fun s21 =>
(f_region_Find s21 p2 (fun n22 n23 b24 b25 b26 n27 b28 h29 =>
(bsel (!b28)
(Q (0 : Int) x18 (9 : Int) h29)
(onSome pt4 fun a30 =>
(aI .i64 a30 h29 fun n31 =>
(f_space_Machine_purse p0 n31 (fun pt32 pt33 pt34 n35 h36 =>
(onSome pt4 fun a37 =>
(aI .i64 (Addr.add a37 1) h36 fun n38 =>
(f_table_Query pt32 pt33 pt34 n35 n38 p2 (fun n39 b40 b41 b42 b43 h44 =>
(f_walk_May b24 b25 b26 p3 p4 p5 (fun b45 h46 =>
(bsel (!b45)
(∃ R47 : Int → AH → Prop, (∀ x48 : Int, ∀ h49, R47 x48 h49 → 
(Q (0 : Int) x48 (9 : Int) h49)) ∧
(bsel b43
(R47 (bits .or .i64 x18 (1 : Int)) h46)
(R47 x18 h46)))
(bsel b43
(Q n39 (0 : Int) (0 : Int) h46)
(f_table_Purse_Take pt32 pt33 pt34 n35 (fun n50 n51 h52 =>
(bsel (n51 != (0 : Int))
(Q (0 : Int) (0 : Int) n51 h52)
(onSome pt4 fun a53 =>
(aI .i64 (Addr.add a53 1) h52 fun n54 =>
(f_table_Map pt32 pt33 pt34 n35 n54 p2 n50 b24 b25 b26 (fun n55 h56 =>
(bsel (n55 != (0 : Int))
(f_table_Purse_Give pt32 pt33 pt34 n35 n50 (fun h57 =>
(Q (0 : Int) (0 : Int) n55 h57)) h56)
(Q n50 (0 : Int) (0 : Int) h56))) h52))))) h46)))) h44)) h36)))) h29))))) h19)))) ∧
(bsel p5
(R17 (bits .or .i64 x11 (16 : Int)) h10)
(R17 x11 h10)))))))))))
def space_Machine_Touch_A : space_Machine_Touch_T := space_Machine_Touch_G region_Find_A space_Machine_purse_A table_Query_A walk_May_A table_Purse_Take_A table_Map_A table_Purse_Give_A
def space_Machine_Touch_W (f : space_Machine_Touch_T) : ArS [.c .p, .c (.i .i64), .c (.i .i64), .agg [.b, .b, .b]] EnR := fun p0 p1 p2 p3 p4 p5 K _Kp => f p0 p1 p2 p3 p4 p5 (fun r0 r1 r2 => K (.tuple #[(.int .i64 r0), (.int .i64 r1), (.int .i64 r2)]))

/- demesne/pte.Canonical -/
abbrev pte_Canonical_T := Int → (Bool → AH → Prop) → AP
def pte_Canonical_A (p0 : Int) (Q : Bool → AH → Prop) (h : AH) : Prop :=
(bsel ((Int.fdiv p0 (2 ^ (47 : Nat))) == (0 : Int))
(Q true h)
(Q ((Int.fdiv p0 (2 ^ (47 : Nat))) == (131071 : Int)) h))
def pte_Canonical_W (f : pte_Canonical_T) : ArS [.c (.i .u64)] EnR := fun p0 K _Kp => f p0 (fun r0 => K (.bool r0))

/- (*demesne/walk.walker).fault -/
abbrev walk_walker_fault_T := Option Addr → Int → (AH → Prop) → (Value → AP) → AP
def walk_walker_fault_A (p0 : Option Addr) (p1 : Int) (_Q : AH → Prop) (Kp : Value → AP) (h : AH) : Prop :=
(∃ R1 : Int → AH → Prop, (∀ x4 : Int, ∀ h5, R1 x4 h5 → 
(∃ R6 : Int → AH → Prop, (∀ x9 : Int, ∀ h10, R6 x9 h10 → 
(∃ R11 : Int → AH → Prop, (∀ x14 : Int, ∀ h15, R11 x14 h15 → 
(onSome p0 fun a16 =>
(aI .u64 (Addr.add a16 1) h15 fun n17 =>
(Kp (.iface 243 (.agg #[(.int .u64 n17), (.int .i64 x14), (.int .i64 (9 : Int))])) h15)))) ∧
(onSome p0 fun a12 =>
(aB (Addr.add (Addr.add a12 2) 2) h10 fun b13 =>
(bsel b13
(R11 (bits .or .i64 x9 (16 : Int)) h10)
(R11 x9 h10)))))) ∧
(onSome p0 fun a7 =>
(aB (Addr.add (Addr.add a7 2) 1) h5 fun b8 =>
(bsel b8
(R6 (bits .or .i64 x4 (4 : Int)) h5)
(R6 x4 h5)))))) ∧
(onSome p0 fun a2 =>
(aB (Addr.add a2 2) h fun b3 =>
(bsel b3
(R1 (bits .or .i64 p1 (2 : Int)) h)
(R1 p1 h)))))
def walk_walker_fault_W (f : walk_walker_fault_T) : ArS [.c .p, .c (.i .i64)] EnR := fun p0 p1 K Kp => f p0 p1 (K (.tuple #[])) Kp

/- demesne/pte.Reserved -/
abbrev pte_Reserved_T := Int → Int → (Bool → AH → Prop) → AP
def pte_Reserved_A (p0 : Int) (p1 : Int) (Q : Bool → AH → Prop) (h : AH) : Prop :=
(bsel ((bits .and .u64 p0 (1 : Int)) == (0 : Int))
(Q false h)
(bsel ((bits .and .u64 (Int.fdiv p0 (2 ^ (32 : Nat))) (1048575 : Int)) != (0 : Int))
(Q true h)
(bsel (decide (p1 ≥ (3 : Int)))
(Q ((bits .and .u64 (Int.fdiv p0 (2 ^ (7 : Nat))) (1 : Int)) == (1 : Int)) h)
(bsel (p1 == (2 : Int))
(bsel ((bits .and .u64 (Int.fdiv p0 (2 ^ (7 : Nat))) (1 : Int)) == (1 : Int))
(Q ((bits .and .u64 (Int.fdiv p0 (2 ^ (12 : Nat))) (511 : Int)) != (0 : Int)) h)
(Q false h))
(Q false h)))))
def pte_Reserved_W (f : pte_Reserved_T) : ArS [.c (.i .u64), .c (.i .i64)] EnR := fun p0 p1 K _Kp => f p0 p1 (fun r0 => K (.bool r0))

/- (*demesne/walk.walker).entry -/
abbrev walk_walker_entry_T := Option Addr → Int → Int → Int → (Int → Int → AH → Prop) → (Value → AP) → AP
def walk_walker_entry_G (f_ram_RAM_Load : ram_RAM_Load_T) (f_walk_walker_fault : walk_walker_fault_T) (f_pte_Reserved : pte_Reserved_T) (f_pte_Unpack : pte_Unpack_T) (p0 : Option Addr) (p1 : Int) (p2 : Int) (p3 : Int) (Q : Int → Int → AH → Prop) (Kp : Value → AP) (h : AH) : Prop :=
(onSome p0 fun a1 =>
(aP a1 h fun pt2 =>
(f_ram_RAM_Load pt2 (IntKind.wrap .u64 ((IntKind.wrap .u64 ((IntKind.wrap .u64 p1) * (4096 : Int))) + (IntKind.wrap .u64 (IntKind.wrap .i64 ((8 : Int) * p2))))) (8 : Int) (fun n3 n4 h5 =>
(∃ R6 : AH → Prop, (∀ h7, R6 h7 → 
(∃ R8 : AH → Prop, (∀ h12, R8 h12 → 
(∃ R13 : AH → Prop, (∀ h19, R13 h19 → 
(f_pte_Unpack n3 (fun b20 b21 b22 b23 b24 b25 b26 b27 n28 h29 =>
(∃ R30 : AH → Prop, (∀ h37, R30 h37 → 
(∃ R38 : AH → Prop, (∀ h45, R38 h45 → 
(onSome p0 fun a46 =>
(aB (Addr.add (Addr.add a46 5) 2) h45 fun b47 =>
(bsel b47
(onSome p0 fun a48 =>
(aC (Addr.add (Addr.add a48 5) 2) (.bool (!b27)) h45 fun h49 =>
(Q n3 (IntKind.wrap .u64 ((IntKind.wrap .u64 ((IntKind.wrap .u64 p1) * (4096 : Int))) + (IntKind.wrap .u64 (IntKind.wrap .i64 ((8 : Int) * p2))))) h49)))
(onSome p0 fun a50 =>
(aC (Addr.add (Addr.add a50 5) 2) (.bool false) h45 fun h51 =>
(Q n3 (IntKind.wrap .u64 ((IntKind.wrap .u64 ((IntKind.wrap .u64 p1) * (4096 : Int))) + (IntKind.wrap .u64 (IntKind.wrap .i64 ((8 : Int) * p2))))) h51))))))) ∧
(onSome p0 fun a39 =>
(aB (Addr.add (Addr.add a39 5) 1) h37 fun b40 =>
(bsel b40
(onSome p0 fun a41 =>
(aC (Addr.add (Addr.add a41 5) 1) (.bool b22) h37 fun h42 =>
(R38 h42)))
(onSome p0 fun a43 =>
(aC (Addr.add (Addr.add a43 5) 1) (.bool false) h37 fun h44 =>
(R38 h44)))))))) ∧
(onSome p0 fun a31 =>
(aB (Addr.add a31 5) h29 fun b32 =>
(bsel b32
(onSome p0 fun a33 =>
(aC (Addr.add a33 5) (.bool b21) h29 fun h34 =>
(R30 h34)))
(onSome p0 fun a35 =>
(aC (Addr.add a35 5) (.bool false) h29 fun h36 =>
(R30 h36)))))))) h19)) ∧
(f_pte_Reserved n3 p3 (fun b14 h15 =>
(bsel b14
(f_walk_walker_fault p0 (9 : Int) (fun h16 =>
(R13 h16)) (fun v17 h18 => (Kp v17 h18)) h15)
(R13 h15))) h12))) ∧
(bsel ((bits .and .u64 n3 (1 : Int)) == (0 : Int))
(f_walk_walker_fault p0 (0 : Int) (fun h9 =>
(R8 h9)) (fun v10 h11 => (Kp v10 h11)) h7)
(R8 h7)))) ∧
(bsel (n4 != (0 : Int))
(Kp (.iface 243 (.agg #[(.int .u64 (0 : Int)), (.int .i64 (0 : Int)), (.int .i64 n4)])) h5)
(R6 h5)))) h)))
def walk_walker_entry_A : walk_walker_entry_T := walk_walker_entry_G ram_RAM_Load_A walk_walker_fault_A pte_Reserved_A pte_Unpack_A
def walk_walker_entry_W (f : walk_walker_entry_T) : ArS [.c .p, .c (.i .i64), .c (.i .i64), .c (.i .i64)] EnR := fun p0 p1 p2 p3 K Kp => f p0 p1 p2 p3 (fun r0 r1 => K (.tuple #[(.int .u64 r0), (.int .u64 r1)])) Kp

/- demesne/walk.mark -/
abbrev walk_mark_T := Option Addr → Sl → Bool → (AH → Prop) → AP
def walk_mark_G (f_ram_RAM_Load : ram_RAM_Load_T) (f_ram_RAM_Store : ram_RAM_Store_T) (p0 : Option Addr) (p1 : Sl) (p2 : Bool) (Q : AH → Prop) (h : AH) : Prop :=
(∃ I1 : Int → Nat → AH → Prop, (∃ m2, I1 (0 : Int) m2 h) ∧ ∀ x5 : Int, ∀ m2 h4, I1 x5 m2 h4 → 
(bsel (decide (x5 < (Int.ofNat p1.len)))
(∃ R6 : AH → Prop, (∀ h17, R6 h17 → 
(∃ m3, m3 < m2 ∧ I1 (IntKind.wrap .i64 (x5 + (1 : Int))) m3 h17)) ∧
(onSome p1.a fun a7 =>
(inB x5 p1.len
(aI .u64 (Addr.add a7 (Int.toNat x5 * 1)) h4 fun n8 =>
(f_ram_RAM_Load p0 n8 (8 : Int) (fun n9 n10 h11 =>
(∃ R12 : Int → AH → Prop, (∀ x13 : Int, ∀ h14, R12 x13 h14 → 
(bsel (x13 != n9)
(f_ram_RAM_Store p0 n8 (8 : Int) x13 (fun n15 h16 =>
(R6 h16)) h14)
(R6 h14))) ∧
(bsel p2
(bsel (x5 == (IntKind.wrap .i64 ((Int.ofNat p1.len) - (1 : Int))))
(R12 (bits .or .u64 (bits .or .u64 n9 (32 : Int)) (64 : Int)) h11)
(R12 (bits .or .u64 n9 (32 : Int)) h11))
(R12 (bits .or .u64 n9 (32 : Int)) h11)))) h4)))))
(Q h4)))
def walk_mark_A : walk_mark_T := walk_mark_G ram_RAM_Load_A ram_RAM_Store_A
def walk_mark_W (f : walk_mark_T) : ArS [.c .p, .c .s, .c .b] EnR := fun p0 p1 p2 K _Kp => f p0 p1 p2 (K (.tuple #[]))

/- demesne/walk.Walk$1: where nothing panics; where it recovers -/
abbrev walk_Walk_1_Tn := Option Addr → Option Addr → Option Addr → AP → AP
def walk_Walk_1_nA (_p0 : Option Addr) (_p1 : Option Addr) (_p2 : Option Addr) (K : AP) (h : AH) : Prop :=
(K h)
abbrev walk_Walk_1_Tp := Option Addr → Option Addr → Option Addr → Int → Int → Int → AP → AP
def walk_Walk_1_pA (p0 : Option Addr) (p1 : Option Addr) (p2 : Option Addr) (y0 : Int) (y1 : Int) (y2 : Int) (K : AP) (h : AH) : Prop :=
(onSome p0 fun a1 =>
(aC a1 (.int .i64 (0 : Int)) h fun h2 =>
(aC (Addr.add a1 1) (.bool false) h2 fun h3 =>
(aC (Addr.add a1 2) (.bool false) h3 fun h4 =>
(aC (Addr.add a1 3) (.bool false) h4 fun h5 =>
(aC (Addr.add a1 4) (.bool false) h5 fun h6 =>
(aC (Addr.add a1 5) (.bool false) h6 fun h7 =>
(aC (Addr.add a1 6) (.bool false) h7 fun h8 =>
(onSome p1 fun a9 =>
(aC a9 (.int .u64 y0) h8 fun h10 =>
(aC (Addr.add a9 1) (.int .i64 y1) h10 fun h11 =>
(onSome p2 fun a12 =>
(aC a12 (.int .i64 y2) h11 fun h13 =>
(K h13))))))))))))))
abbrev walk_Walk_1_Tv := Option Addr → Option Addr → Option Addr → Value → AP → AP
def walk_Walk_1_vA (f_p : walk_Walk_1_Tp) : walk_Walk_1_Tv := fun p0 p1 p2 v K h => dpS [.c .p, .c .p, .c .p] 243 [(.i .u64), (.i .i64), (.i .i64)] f_p [(.pointer p0), (.pointer p1), (.pointer p2)] v K h
/- demesne/walk.Walk -/
abbrev walk_Walk_T := Option Addr → Int → Int → Bool → Bool → Bool → (Int → Bool → Bool → Bool → Bool → Bool → Bool → Int → Int → Int → AH → Prop) → AP
def walk_Walk_G (f_pte_Canonical : pte_Canonical_T) (f_ram_RAM_Has : ram_RAM_Has_T) (f_pte_Split : pte_Split_T) (f_walk_walker_entry : walk_walker_entry_T) (f_pte_Unpack : pte_Unpack_T) (f_walk_May : walk_May_T) (f_walk_walker_fault : walk_walker_fault_T) (f_walk_mark : walk_mark_T) (f_walk_Walk_1_n : walk_Walk_1_Tn) (f_walk_Walk_1_v : walk_Walk_1_Tv) (p0 : Option Addr) (p1 : Int) (p2 : Int) (p3 : Bool) (p4 : Bool) (p5 : Bool) (Q : Int → Bool → Bool → Bool → Bool → Bool → Bool → Int → Int → Int → AH → Prop) (h : AH) : Prop :=
(newA h (.cells #[(.int .i64 (0 : Int)), (.bool false), (.bool false), (.bool false), (.bool false), (.bool false), (.bool false)] 158) fun b1 h2 =>
(newA h2 (.cells #[(.int .u64 (0 : Int)), (.int .i64 (0 : Int))] 47) fun b3 h4 =>
(newA h4 (.cells #[(.int .i64 (0 : Int))] 37) fun b5 h6 =>
(f_pte_Canonical p2 (fun b7 h8 =>
(bsel (!b7)
(aC (Addr.mk b1 0 none) (.int .i64 (0 : Int)) h8 fun h9 =>
(aC (Addr.add (Addr.mk b1 0 none) 1) (.bool false) h9 fun h10 =>
(aC (Addr.add (Addr.mk b1 0 none) 2) (.bool false) h10 fun h11 =>
(aC (Addr.add (Addr.mk b1 0 none) 3) (.bool false) h11 fun h12 =>
(aC (Addr.add (Addr.mk b1 0 none) 4) (.bool false) h12 fun h13 =>
(aC (Addr.add (Addr.mk b1 0 none) 5) (.bool false) h13 fun h14 =>
(aC (Addr.add (Addr.mk b1 0 none) 6) (.bool false) h14 fun h15 =>
(aC (Addr.mk b3 0 none) (.int .u64 (0 : Int)) h15 fun h16 =>
(aC (Addr.add (Addr.mk b3 0 none) 1) (.int .i64 (0 : Int)) h16 fun h17 =>
(aC (Addr.mk b5 0 none) (.int .i64 (1 : Int)) h17 fun h18 =>
(f_walk_Walk_1_n (some (Addr.mk b1 0 none)) (some (Addr.mk b3 0 none)) (some (Addr.mk b5 0 none)) (fun h19 =>
(aI .i64 (Addr.mk b1 0 none) h19 fun n20 =>
(aB (Addr.add (Addr.mk b1 0 none) 1) h19 fun b21 =>
(aB (Addr.add (Addr.mk b1 0 none) 2) h19 fun b22 =>
(aB (Addr.add (Addr.mk b1 0 none) 3) h19 fun b23 =>
(aB (Addr.add (Addr.mk b1 0 none) 4) h19 fun b24 =>
(aB (Addr.add (Addr.mk b1 0 none) 5) h19 fun b25 =>
(aB (Addr.add (Addr.mk b1 0 none) 6) h19 fun b26 =>
(aI .u64 (Addr.mk b3 0 none) h19 fun n27 =>
(aI .i64 (Addr.add (Addr.mk b3 0 none) 1) h19 fun n28 =>
(aI .i64 (Addr.mk b5 0 none) h19 fun n29 =>
(Q n20 b21 b22 b23 b24 b25 b26 n27 n28 n29 h19)))))))))))) h18)))))))))))
(f_ram_RAM_Has p0 p1 (fun b30 h31 =>
(bsel (!b30)
(aC (Addr.mk b1 0 none) (.int .i64 (0 : Int)) h31 fun h32 =>
(aC (Addr.add (Addr.mk b1 0 none) 1) (.bool false) h32 fun h33 =>
(aC (Addr.add (Addr.mk b1 0 none) 2) (.bool false) h33 fun h34 =>
(aC (Addr.add (Addr.mk b1 0 none) 3) (.bool false) h34 fun h35 =>
(aC (Addr.add (Addr.mk b1 0 none) 4) (.bool false) h35 fun h36 =>
(aC (Addr.add (Addr.mk b1 0 none) 5) (.bool false) h36 fun h37 =>
(aC (Addr.add (Addr.mk b1 0 none) 6) (.bool false) h37 fun h38 =>
(aC (Addr.mk b3 0 none) (.int .u64 (0 : Int)) h38 fun h39 =>
(aC (Addr.add (Addr.mk b3 0 none) 1) (.int .i64 (0 : Int)) h39 fun h40 =>
(aC (Addr.mk b5 0 none) (.int .i64 (2 : Int)) h40 fun h41 =>
(f_walk_Walk_1_n (some (Addr.mk b1 0 none)) (some (Addr.mk b3 0 none)) (some (Addr.mk b5 0 none)) (fun h42 =>
(aI .i64 (Addr.mk b1 0 none) h42 fun n43 =>
(aB (Addr.add (Addr.mk b1 0 none) 1) h42 fun b44 =>
(aB (Addr.add (Addr.mk b1 0 none) 2) h42 fun b45 =>
(aB (Addr.add (Addr.mk b1 0 none) 3) h42 fun b46 =>
(aB (Addr.add (Addr.mk b1 0 none) 4) h42 fun b47 =>
(aB (Addr.add (Addr.mk b1 0 none) 5) h42 fun b48 =>
(aB (Addr.add (Addr.mk b1 0 none) 6) h42 fun b49 =>
(aI .u64 (Addr.mk b3 0 none) h42 fun n50 =>
(aI .i64 (Addr.add (Addr.mk b3 0 none) 1) h42 fun n51 =>
(aI .i64 (Addr.mk b5 0 none) h42 fun n52 =>
(Q n43 b44 b45 b46 b47 b48 b49 n50 n51 n52 h42)))))))))))) h41)))))))))))
(newA h31 (.cells #[(.pointer p0), (.int .u64 p2), (.bool p3), (.bool p4), (.bool p5), (.bool true), (.bool true), (.bool true)] 248) fun b53 h54 =>
(f_pte_Split p2 (fun n55 n56 n57 n58 n59 h60 =>
(newA h60 (.cells #[(.int .i64 (0 : Int)), (.int .i64 (0 : Int)), (.int .i64 (0 : Int)), (.int .i64 (0 : Int))] 172) fun b61 h62 =>
(aC (Addr.mk b61 0 none) (.int .i64 n55) h62 fun h63 =>
(aC (Addr.add (Addr.mk b61 0 none) 1) (.int .i64 n56) h63 fun h64 =>
(aC (Addr.add (Addr.mk b61 0 none) 2) (.int .i64 n57) h64 fun h65 =>
(aC (Addr.add (Addr.mk b61 0 none) 3) (.int .i64 n58) h65 fun h66 =>
(∃ R67 : Sl → AH → Prop, (∀ s154 : Sl, ∀ h155, R67 s154 h155 → 
(f_walk_mark p0 s154 p3 (fun h156 =>
(aI .i64 (Addr.mk b1 0 none) h156 fun n157 =>
(aB (Addr.add (Addr.mk b1 0 none) 1) h156 fun b158 =>
(aB (Addr.add (Addr.mk b1 0 none) 2) h156 fun b159 =>
(aB (Addr.add (Addr.mk b1 0 none) 3) h156 fun b160 =>
(aB (Addr.add (Addr.mk b1 0 none) 4) h156 fun b161 =>
(aB (Addr.add (Addr.mk b1 0 none) 5) h156 fun b162 =>
(aB (Addr.add (Addr.mk b1 0 none) 6) h156 fun b163 =>
(aC (Addr.mk b1 0 none) (.int .i64 n157) h156 fun h164 =>
(aC (Addr.add (Addr.mk b1 0 none) 1) (.bool b158) h164 fun h165 =>
(aC (Addr.add (Addr.mk b1 0 none) 2) (.bool b159) h165 fun h166 =>
(aC (Addr.add (Addr.mk b1 0 none) 3) (.bool b160) h166 fun h167 =>
(aC (Addr.add (Addr.mk b1 0 none) 4) (.bool b161) h167 fun h168 =>
(aC (Addr.add (Addr.mk b1 0 none) 5) (.bool b162) h168 fun h169 =>
(aC (Addr.add (Addr.mk b1 0 none) 6) (.bool b163) h169 fun h170 =>
(aC (Addr.mk b3 0 none) (.int .u64 (0 : Int)) h170 fun h171 =>
(aC (Addr.add (Addr.mk b3 0 none) 1) (.int .i64 (0 : Int)) h171 fun h172 =>
(aC (Addr.mk b5 0 none) (.int .i64 (0 : Int)) h172 fun h173 =>
(f_walk_Walk_1_n (some (Addr.mk b1 0 none)) (some (Addr.mk b3 0 none)) (some (Addr.mk b5 0 none)) (fun h174 =>
(aI .i64 (Addr.mk b1 0 none) h174 fun n175 =>
(aB (Addr.add (Addr.mk b1 0 none) 1) h174 fun b176 =>
(aB (Addr.add (Addr.mk b1 0 none) 2) h174 fun b177 =>
(aB (Addr.add (Addr.mk b1 0 none) 3) h174 fun b178 =>
(aB (Addr.add (Addr.mk b1 0 none) 4) h174 fun b179 =>
(aB (Addr.add (Addr.mk b1 0 none) 5) h174 fun b180 =>
(aB (Addr.add (Addr.mk b1 0 none) 6) h174 fun b181 =>
(aI .u64 (Addr.mk b3 0 none) h174 fun n182 =>
(aI .i64 (Addr.add (Addr.mk b3 0 none) 1) h174 fun n183 =>
(aI .i64 (Addr.mk b5 0 none) h174 fun n184 =>
(Q n175 b176 b177 b178 b179 b180 b181 n182 n183 n184 h174)))))))))))) h173))))))))))))))))))) h155)) ∧
(∃ I68 : Sl → Int → Int → Nat → AH → Prop, (∃ m69, I68 Sl.nil p1 (4 : Int) m69 h66) ∧ ∀ s72 : Sl, ∀ x73 : Int, ∀ x74 : Int, ∀ m69 h71, I68 s72 x73 x74 m69 h71 → 
(bsel (decide (x74 ≥ (1 : Int)))
(inB (IntKind.wrap .i64 ((4 : Int) - x74)) 4
(aI .i64 (Addr.add (Addr.mk b61 0 none) (Int.toNat (IntKind.wrap .i64 ((4 : Int) - x74)) * 1)) h71 fun n75 =>
(f_walk_walker_entry (some (Addr.mk b53 0 none)) x73 n75 x74 (fun n76 n77 h78 =>
(newA h78 (.cells #[(.int .u64 n77)] 23) fun b92 h93 =>
(apA 1 8 #[(.int .u64 (0 : Int))] 23 s72 (Sl.mk (some (Addr.mk b92 0 none)) 1 1) h93 fun s94 h95 =>
(f_pte_Unpack n76 (fun b96 b97 b98 b99 b100 b101 b102 b103 n104 h105 =>
(∃ R106 : AH → Prop, (∀ h107, R106 h107 → 
(∃ R108 : AH → Prop, (∀ h128, R108 h128 → 
(aB (Addr.add (Addr.mk b53 0 none) 5) h128 fun b129 =>
(aB (Addr.add (Addr.add (Addr.mk b53 0 none) 5) 1) h128 fun b130 =>
(aB (Addr.add (Addr.add (Addr.mk b53 0 none) 5) 2) h128 fun b131 =>
(bsel b100
(aC (Addr.mk b1 0 none) (.int .i64 n104) h128 fun h132 =>
(aC (Addr.add (Addr.mk b1 0 none) 1) (.bool b129) h132 fun h133 =>
(aC (Addr.add (Addr.mk b1 0 none) 2) (.bool b130) h133 fun h134 =>
(aC (Addr.add (Addr.mk b1 0 none) 3) (.bool b131) h134 fun h135 =>
(aC (Addr.add (Addr.mk b1 0 none) 4) (.bool b102) h135 fun h136 =>
(aC (Addr.add (Addr.mk b1 0 none) 5) (.bool (x74 == (2 : Int))) h136 fun h137 =>
(aC (Addr.add (Addr.mk b1 0 none) 6) (.bool true) h137 fun h138 =>
(aB (Addr.add (Addr.mk b1 0 none) 5) h138 fun b139 =>
(bsel b139
(aI .i64 (Addr.mk b1 0 none) h138 fun n140 =>
(aI .i64 (Addr.add (Addr.mk b61 0 none) 3) h138 fun n141 =>
(aC (Addr.mk b1 0 none) (.int .i64 (IntKind.wrap .i64 (n140 + n141))) h138 fun h142 =>
(R67 s94 h142))))
(R67 s94 h138))))))))))
(aC (Addr.mk b1 0 none) (.int .i64 n104) h128 fun h143 =>
(aC (Addr.add (Addr.mk b1 0 none) 1) (.bool b129) h143 fun h144 =>
(aC (Addr.add (Addr.mk b1 0 none) 2) (.bool b130) h144 fun h145 =>
(aC (Addr.add (Addr.mk b1 0 none) 3) (.bool b131) h145 fun h146 =>
(aC (Addr.add (Addr.mk b1 0 none) 4) (.bool b102) h146 fun h147 =>
(aC (Addr.add (Addr.mk b1 0 none) 5) (.bool (x74 == (2 : Int))) h147 fun h148 =>
(aC (Addr.add (Addr.mk b1 0 none) 6) (.bool p3) h148 fun h149 =>
(aB (Addr.add (Addr.mk b1 0 none) 5) h149 fun b150 =>
(bsel b150
(aI .i64 (Addr.mk b1 0 none) h149 fun n151 =>
(aI .i64 (Addr.add (Addr.mk b61 0 none) 3) h149 fun n152 =>
(aC (Addr.mk b1 0 none) (.int .i64 (IntKind.wrap .i64 (n151 + n152))) h149 fun h153 =>
(R67 s94 h153))))
(R67 s94 h149))))))))))))))) ∧
(aB (Addr.add (Addr.mk b53 0 none) 5) h107 fun b109 =>
(aB (Addr.add (Addr.add (Addr.mk b53 0 none) 5) 1) h107 fun b110 =>
(aB (Addr.add (Addr.add (Addr.mk b53 0 none) 5) 2) h107 fun b111 =>
(f_walk_May b109 b110 b111 p3 p4 p5 (fun b112 h113 =>
(bsel (!b112)
(f_walk_walker_fault (some (Addr.mk b53 0 none)) (1 : Int) (fun h114 =>
(R108 h114)) (fun v115 h116 => (f_walk_Walk_1_v (some (Addr.mk b1 0 none)) (some (Addr.mk b3 0 none)) (some (Addr.mk b5 0 none)) v115 (fun h117 =>
(aI .i64 (Addr.mk b1 0 none) h117 fun n118 =>
(aB (Addr.add (Addr.mk b1 0 none) 1) h117 fun b119 =>
(aB (Addr.add (Addr.mk b1 0 none) 2) h117 fun b120 =>
(aB (Addr.add (Addr.mk b1 0 none) 3) h117 fun b121 =>
(aB (Addr.add (Addr.mk b1 0 none) 4) h117 fun b122 =>
(aB (Addr.add (Addr.mk b1 0 none) 5) h117 fun b123 =>
(aB (Addr.add (Addr.mk b1 0 none) 6) h117 fun b124 =>
(aI .u64 (Addr.mk b3 0 none) h117 fun n125 =>
(aI .i64 (Addr.add (Addr.mk b3 0 none) 1) h117 fun n126 =>
(aI .i64 (Addr.mk b5 0 none) h117 fun n127 =>
(Q n118 b119 b120 b121 b122 b123 b124 n125 n126 n127 h117)))))))))))) h116)) h113)
(R108 h113))) h107)))))) ∧
(bsel (decide (x74 > (1 : Int)))
(bsel (x74 == (2 : Int))
(bsel (!b101)
(∃ m70, m70 < m69 ∧ I68 s94 n104 (IntKind.wrap .i64 (x74 - (1 : Int))) m70 h105)
(R106 h105))
(∃ m70, m70 < m69 ∧ I68 s94 n104 (IntKind.wrap .i64 (x74 - (1 : Int))) m70 h105))
(R106 h105)))) h95)))) (fun v79 h80 => (f_walk_Walk_1_v (some (Addr.mk b1 0 none)) (some (Addr.mk b3 0 none)) (some (Addr.mk b5 0 none)) v79 (fun h81 =>
(aI .i64 (Addr.mk b1 0 none) h81 fun n82 =>
(aB (Addr.add (Addr.mk b1 0 none) 1) h81 fun b83 =>
(aB (Addr.add (Addr.mk b1 0 none) 2) h81 fun b84 =>
(aB (Addr.add (Addr.mk b1 0 none) 3) h81 fun b85 =>
(aB (Addr.add (Addr.mk b1 0 none) 4) h81 fun b86 =>
(aB (Addr.add (Addr.mk b1 0 none) 5) h81 fun b87 =>
(aB (Addr.add (Addr.mk b1 0 none) 6) h81 fun b88 =>
(aI .u64 (Addr.mk b3 0 none) h81 fun n89 =>
(aI .i64 (Addr.add (Addr.mk b3 0 none) 1) h81 fun n90 =>
(aI .i64 (Addr.mk b5 0 none) h81 fun n91 =>
(Q n82 b83 b84 b85 b86 b87 b88 n89 n90 n91 h81)))))))))))) h80)) h71)))
(R67 s72 h71)))))))))) h54)))) h8))) h6))))
def walk_Walk_A : walk_Walk_T := walk_Walk_G pte_Canonical_A ram_RAM_Has_A pte_Split_A walk_walker_entry_A pte_Unpack_A walk_May_A walk_walker_fault_A walk_mark_A walk_Walk_1_nA (walk_Walk_1_vA walk_Walk_1_pA)
def walk_Walk_W (f : walk_Walk_T) : ArS [.c .p, .c (.i .i64), .c (.i .u64), .agg [.b, .b, .b]] EnR := fun p0 p1 p2 p3 p4 p5 K _Kp => f p0 p1 p2 p3 p4 p5 (fun r0 r1 r2 r3 r4 r5 r6 r7 r8 r9 => K (.tuple #[(.agg #[(.int .i64 r0), (.bool r1), (.bool r2), (.bool r3), (.bool r4), (.bool r5), (.bool r6)]), (.agg #[(.int .u64 r7), (.int .i64 r8)]), (.int .i64 r9)]))

/- (*demesne/tlb.TLB).Fill -/
abbrev tlb_TLB_Fill_T := Option Addr → Int → Bool → Int → Int → Int → Bool → Bool → Bool → Bool → Bool → (Int → AH → Prop) → AP
def tlb_TLB_Fill_G (f_tlb_set : tlb_set_T) (f_tlb_Line_fits : tlb_Line_fits_T) (p0 : Option Addr) (p1 : Int) (p2 : Bool) (p3 : Int) (p4 : Int) (p5 : Int) (p6 : Bool) (p7 : Bool) (p8 : Bool) (p9 : Bool) (p10 : Bool) (Q : Int → AH → Prop) (h : AH) : Prop :=
(∃ R1 : AH → Prop, (∀ h2, R1 h2 → 
(onSome p0 fun a3 =>
(f_tlb_set p4 (fun n4 h5 =>
(inB n4 8
(∃ I6 : Int → Nat → AH → Prop, (∃ m7, I6 (0 : Int) m7 h5) ∧ ∀ x10 : Int, ∀ m7 h9, I6 x10 m7 h9 → 
(bsel (decide (x10 < (2 : Int)))
(∃ R11 : AH → Prop, (∀ h43, R11 h43 → 
(∃ m8, m8 < m7 ∧ I6 (IntKind.wrap .i64 (x10 + (1 : Int))) m8 h43)) ∧
(inB x10 2
(aB (Addr.add (Addr.add a3 (Int.toNat n4 * 18)) (Int.toNat x10 * 9)) h9 fun b12 =>
(aI .i64 (Addr.add (Addr.add (Addr.add a3 (Int.toNat n4 * 18)) (Int.toNat x10 * 9)) 1) h9 fun n13 =>
(aI .i64 (Addr.add (Addr.add (Addr.add a3 (Int.toNat n4 * 18)) (Int.toNat x10 * 9)) 2) h9 fun n14 =>
(aI .i64 (Addr.add (Addr.add (Addr.add a3 (Int.toNat n4 * 18)) (Int.toNat x10 * 9)) 3) h9 fun n15 =>
(aB (Addr.add (Addr.add (Addr.add a3 (Int.toNat n4 * 18)) (Int.toNat x10 * 9)) 4) h9 fun b16 =>
(aB (Addr.add (Addr.add (Addr.add a3 (Int.toNat n4 * 18)) (Int.toNat x10 * 9)) 5) h9 fun b17 =>
(aB (Addr.add (Addr.add (Addr.add a3 (Int.toNat n4 * 18)) (Int.toNat x10 * 9)) 6) h9 fun b18 =>
(aB (Addr.add (Addr.add (Addr.add a3 (Int.toNat n4 * 18)) (Int.toNat x10 * 9)) 7) h9 fun b19 =>
(aB (Addr.add (Addr.add (Addr.add a3 (Int.toNat n4 * 18)) (Int.toNat x10 * 9)) 8) h9 fun b20 =>
(f_tlb_Line_fits b12 n13 n14 n15 b16 b17 b18 b19 b20 p3 p4 (fun b21 h22 =>
(bsel b21
(inB x10 2
(aC (Addr.add (Addr.add a3 (Int.toNat n4 * 18)) (Int.toNat x10 * 9)) (.bool false) h22 fun h23 =>
(aC (Addr.add (Addr.add (Addr.add a3 (Int.toNat n4 * 18)) (Int.toNat x10 * 9)) 1) (.int .i64 (0 : Int)) h23 fun h24 =>
(aC (Addr.add (Addr.add (Addr.add a3 (Int.toNat n4 * 18)) (Int.toNat x10 * 9)) 2) (.int .i64 (0 : Int)) h24 fun h25 =>
(aC (Addr.add (Addr.add (Addr.add a3 (Int.toNat n4 * 18)) (Int.toNat x10 * 9)) 3) (.int .i64 (0 : Int)) h25 fun h26 =>
(aC (Addr.add (Addr.add (Addr.add a3 (Int.toNat n4 * 18)) (Int.toNat x10 * 9)) 4) (.bool false) h26 fun h27 =>
(aC (Addr.add (Addr.add (Addr.add a3 (Int.toNat n4 * 18)) (Int.toNat x10 * 9)) 5) (.bool false) h27 fun h28 =>
(aC (Addr.add (Addr.add (Addr.add a3 (Int.toNat n4 * 18)) (Int.toNat x10 * 9)) 6) (.bool false) h28 fun h29 =>
(aC (Addr.add (Addr.add (Addr.add a3 (Int.toNat n4 * 18)) (Int.toNat x10 * 9)) 7) (.bool false) h29 fun h30 =>
(aC (Addr.add (Addr.add (Addr.add a3 (Int.toNat n4 * 18)) (Int.toNat x10 * 9)) 8) (.bool false) h30 fun h31 =>
(R11 h31)))))))))))
(bsel p9
(inB x10 2
(aB (Addr.add (Addr.add a3 (Int.toNat n4 * 18)) (Int.toNat x10 * 9)) h22 fun b32 =>
(bsel b32
(inB x10 2
(aI .i64 (Addr.add (Addr.add (Addr.add a3 (Int.toNat n4 * 18)) (Int.toNat x10 * 9)) 2) h22 fun n33 =>
(bsel (n33 == p4)
(inB x10 2
(aC (Addr.add (Addr.add a3 (Int.toNat n4 * 18)) (Int.toNat x10 * 9)) (.bool false) h22 fun h34 =>
(aC (Addr.add (Addr.add (Addr.add a3 (Int.toNat n4 * 18)) (Int.toNat x10 * 9)) 1) (.int .i64 (0 : Int)) h34 fun h35 =>
(aC (Addr.add (Addr.add (Addr.add a3 (Int.toNat n4 * 18)) (Int.toNat x10 * 9)) 2) (.int .i64 (0 : Int)) h35 fun h36 =>
(aC (Addr.add (Addr.add (Addr.add a3 (Int.toNat n4 * 18)) (Int.toNat x10 * 9)) 3) (.int .i64 (0 : Int)) h36 fun h37 =>
(aC (Addr.add (Addr.add (Addr.add a3 (Int.toNat n4 * 18)) (Int.toNat x10 * 9)) 4) (.bool false) h37 fun h38 =>
(aC (Addr.add (Addr.add (Addr.add a3 (Int.toNat n4 * 18)) (Int.toNat x10 * 9)) 5) (.bool false) h38 fun h39 =>
(aC (Addr.add (Addr.add (Addr.add a3 (Int.toNat n4 * 18)) (Int.toNat x10 * 9)) 6) (.bool false) h39 fun h40 =>
(aC (Addr.add (Addr.add (Addr.add a3 (Int.toNat n4 * 18)) (Int.toNat x10 * 9)) 7) (.bool false) h40 fun h41 =>
(aC (Addr.add (Addr.add (Addr.add a3 (Int.toNat n4 * 18)) (Int.toNat x10 * 9)) 8) (.bool false) h41 fun h42 =>
(R11 h42)))))))))))
(R11 h22))))
(R11 h22))))
(R11 h22)))) h9))))))))))))
(inB p1 2
(aC (Addr.add (Addr.add a3 (Int.toNat n4 * 18)) (Int.toNat p1 * 9)) (.bool p2) h9 fun h44 =>
(aC (Addr.add (Addr.add (Addr.add a3 (Int.toNat n4 * 18)) (Int.toNat p1 * 9)) 1) (.int .i64 p3) h44 fun h45 =>
(aC (Addr.add (Addr.add (Addr.add a3 (Int.toNat n4 * 18)) (Int.toNat p1 * 9)) 2) (.int .i64 p4) h45 fun h46 =>
(aC (Addr.add (Addr.add (Addr.add a3 (Int.toNat n4 * 18)) (Int.toNat p1 * 9)) 3) (.int .i64 p5) h46 fun h47 =>
(aC (Addr.add (Addr.add (Addr.add a3 (Int.toNat n4 * 18)) (Int.toNat p1 * 9)) 4) (.bool p6) h47 fun h48 =>
(aC (Addr.add (Addr.add (Addr.add a3 (Int.toNat n4 * 18)) (Int.toNat p1 * 9)) 5) (.bool p7) h48 fun h49 =>
(aC (Addr.add (Addr.add (Addr.add a3 (Int.toNat n4 * 18)) (Int.toNat p1 * 9)) 6) (.bool p8) h49 fun h50 =>
(aC (Addr.add (Addr.add (Addr.add a3 (Int.toNat n4 * 18)) (Int.toNat p1 * 9)) 7) (.bool p9) h50 fun h51 =>
(aC (Addr.add (Addr.add (Addr.add a3 (Int.toNat n4 * 18)) (Int.toNat p1 * 9)) 8) (.bool p10) h51 fun h52 =>
(Q (0 : Int) h52))))))))))))))) h2))) ∧
(bsel (decide (p1 < (0 : Int)))
(Q (1 : Int) h)
(bsel (decide (p1 ≥ (2 : Int)))
(Q (1 : Int) h)
(bsel (decide (p3 < (0 : Int)))
(Q (1 : Int) h)
(bsel (decide (p3 ≥ (4096 : Int)))
(Q (1 : Int) h)
(bsel (decide (p4 < (0 : Int)))
(Q (1 : Int) h)
(bsel (decide (p5 < (0 : Int)))
(Q (1 : Int) h)
(bsel (!p2)
(Q (1 : Int) h)
(R1 h)))))))))
def tlb_TLB_Fill_A : tlb_TLB_Fill_T := tlb_TLB_Fill_G tlb_set_A tlb_Line_fits_A
def tlb_TLB_Fill_W (f : tlb_TLB_Fill_T) : ArS [.c .p, .c (.i .i64), .agg [.b, (.i .i64), (.i .i64), (.i .i64), .b, .b, .b, .b, .b]] EnR := fun p0 p1 p2 p3 p4 p5 p6 p7 p8 p9 p10 K _Kp => f p0 p1 p2 p3 p4 p5 p6 p7 p8 p9 p10 (fun r0 => K (.int .i64 r0))

/- (*demesne/cpu.CPU).frame -/
abbrev cpu_CPU_frame_T := Option Addr → Int → Int → Bool → Bool → Bool → (Int → AH → Prop) → (Value → AP) → AP
def cpu_CPU_frame_G (f_cpu_CPU_choose : cpu_CPU_choose_T) (f_space_Machine_Root : space_Machine_Root_T) (f_cpu_check : cpu_check_T) (f_space_Machine_Tag : space_Machine_Tag_T) (f_tlb_TLB_Find : tlb_TLB_Find_T) (f_walk_May : walk_May_T) (f_space_Machine_Touch : space_Machine_Touch_T) (f_walk_Walk : walk_Walk_T) (f_tlb_TLB_Fill : tlb_TLB_Fill_T) (p0 : Option Addr) (p1 : Int) (p2 : Int) (p3 : Bool) (p4 : Bool) (p5 : Bool) (Q : Int → AH → Prop) (Kp : Value → AP) (h : AH) : Prop :=
(f_cpu_CPU_choose p0 (fun n1 h2 =>
(onSome p0 fun a3 =>
(aP a3 h2 fun pt4 =>
(f_space_Machine_Root pt4 p1 (fun n5 b6 h7 =>
(∃ R8 : AH → Prop, (∀ h12, R8 h12 → 
(onSome p0 fun a13 =>
(aP a13 h12 fun pt14 =>
(f_space_Machine_Tag pt14 p1 (fun n15 h16 =>
(∃ R17 : AH → Prop, (∀ h35, R17 h35 → 
(onSome p0 fun a36 =>
(aP a36 h35 fun pt37 =>
(f_space_Machine_Touch pt37 p1 (IntKind.wrap .i64 (IntKind.wrap .u64 (Int.tdiv p2 (4096 : Int)))) p3 p4 p5 (fun n38 n39 n40 h41 =>
(∃ R42 : Int → Int → AH → Prop, (∀ c43 : Int, ∀ c44 : Int, ∀ h45, R42 c43 c44 h45 → 
(f_cpu_check n40 c43 c44 (fun h46 =>
(onSome p0 fun a49 =>
(aP a49 h46 fun pt50 =>
(onSome pt50 fun a51 =>
(aP a51 h46 fun pt52 =>
(f_walk_Walk pt52 n5 p2 p3 p4 p5 (fun n53 b54 b55 b56 b57 b58 b59 n60 n61 n62 h63 =>
(f_cpu_check n62 n60 n61 (fun h64 =>
(∃ R67 : AH → Prop, (∀ h74, R67 h74 → 
(Q n53 h74)) ∧
(bsel (decide (n1 ≥ (0 : Int)))
(onSome p0 fun a68 =>
(aP a68 h64 fun pt69 =>
(onSome pt69 fun a70 =>
(aP (Addr.add a70 3) h64 fun pt71 =>
(f_tlb_TLB_Fill pt71 n1 true n15 (IntKind.wrap .i64 (IntKind.wrap .u64 (Int.tdiv p2 (4096 : Int)))) n53 b54 b55 b56 false b59 (fun n72 h73 =>
(R67 h73)) h64)))))
(R67 h64)))) (fun v65 h66 => (Kp v65 h66)) h63)) h46)))))) (fun v47 h48 => (Kp v47 h48)) h45)) ∧
(bsel (n40 == (9 : Int))
(R42 p2 n39 h41)
(R42 (0 : Int) (0 : Int) h41)))) h35)))) ∧
(onSome p0 fun a18 =>
(aP a18 h16 fun pt19 =>
(onSome pt19 fun a20 =>
(aP (Addr.add a20 3) h16 fun pt21 =>
(f_tlb_TLB_Find pt21 n15 (IntKind.wrap .i64 (IntKind.wrap .u64 (Int.tdiv p2 (4096 : Int)))) (fun b22 n23 n24 n25 b26 b27 b28 b29 b30 b31 h32 =>
(bsel b31
(f_walk_May b26 b27 b28 p3 p4 p5 (fun b33 h34 =>
(bsel b33
(bsel b30
(Q n25 h34)
(bsel (!p3)
(Q n25 h34)
(R17 h34)))
(R17 h34))) h32)
(R17 h32))) h16))))))) h12)))) ∧
(bsel (!b6)
(f_cpu_check (5 : Int) (0 : Int) (0 : Int) (fun h9 =>
(R8 h9)) (fun v10 h11 => (Kp v10 h11)) h7)
(R8 h7)))) h2)))) h)
def cpu_CPU_frame_A : cpu_CPU_frame_T := cpu_CPU_frame_G cpu_CPU_choose_A space_Machine_Root_A cpu_check_A space_Machine_Tag_A tlb_TLB_Find_A walk_May_A space_Machine_Touch_A walk_Walk_A tlb_TLB_Fill_A
def cpu_CPU_frame_W (f : cpu_CPU_frame_T) : ArS [.c .p, .c (.i .i64), .c (.i .u64), .agg [.b, .b, .b]] EnR := fun p0 p1 p2 p3 p4 p5 K Kp => f p0 p1 p2 p3 p4 p5 (fun r0 => K (.int .i64 r0)) Kp

/- (*demesne/cpu.CPU).Do$1: where nothing panics; where it recovers -/
abbrev cpu_CPU_Do_1_Tn := Option Addr → Option Addr → Option Addr → AP → AP
def cpu_CPU_Do_1_nA (_p0 : Option Addr) (_p1 : Option Addr) (_p2 : Option Addr) (K : AP) (h : AH) : Prop :=
(K h)
abbrev cpu_CPU_Do_1_Tp := Option Addr → Option Addr → Option Addr → Int → Int → Int → AP → AP
def cpu_CPU_Do_1_pA (p0 : Option Addr) (p1 : Option Addr) (p2 : Option Addr) (y0 : Int) (y1 : Int) (y2 : Int) (K : AP) (h : AH) : Prop :=
(onSome p0 fun a1 =>
(aC a1 (.int .u64 (0 : Int)) h fun h2 =>
(onSome p1 fun a3 =>
(aC a3 (.int .u64 y0) h2 fun h4 =>
(aC (Addr.add a3 1) (.int .i64 y1) h4 fun h5 =>
(onSome p2 fun a6 =>
(aC a6 (.int .i64 y2) h5 fun h7 =>
(K h7))))))))
abbrev cpu_CPU_Do_1_Tv := Option Addr → Option Addr → Option Addr → Value → AP → AP
def cpu_CPU_Do_1_vA (f_p : cpu_CPU_Do_1_Tp) : cpu_CPU_Do_1_Tv := fun p0 p1 p2 v K h => dpS [.c .p, .c .p, .c .p] 101 [(.i .u64), (.i .i64), (.i .i64)] f_p [(.pointer p0), (.pointer p1), (.pointer p2)] v K h
/- (*demesne/cpu.CPU).Do -/
abbrev cpu_CPU_Do_T := Option Addr → Int → Int → Int → Bool → Int → (Int → Int → Int → Int → AH → Prop) → AP
def cpu_CPU_Do_G (f_cpu_check : cpu_check_T) (f_cpu_CPU_frame : cpu_CPU_frame_T) (f_ram_RAM_Store : ram_RAM_Store_T) (f_ram_RAM_Load : ram_RAM_Load_T) (f_cpu_CPU_Do_1_n : cpu_CPU_Do_1_Tn) (f_cpu_CPU_Do_1_v : cpu_CPU_Do_1_Tv) (p0 : Option Addr) (p1 : Int) (p2 : Int) (p3 : Int) (p4 : Bool) (p5 : Int) (Q : Int → Int → Int → Int → AH → Prop) (h : AH) : Prop :=
(newA h (.cells #[(.int .u64 (0 : Int))] 23) fun b1 h2 =>
(newA h2 (.cells #[(.int .u64 (0 : Int)), (.int .i64 (0 : Int))] 47) fun b3 h4 =>
(newA h4 (.cells #[(.int .i64 (0 : Int))] 37) fun b5 h6 =>
(∃ R7 : AH → Prop, (∀ h19, R7 h19 → 
(∃ R20 : AH → Prop, (∀ h37, R20 h37 → 
(f_cpu_CPU_frame p0 p1 p2 p4 true false (fun n38 h39 =>
(bsel p4
(onSome p0 fun a47 =>
(aP a47 h39 fun pt48 =>
(onSome pt48 fun a49 =>
(aP a49 h39 fun pt50 =>
(f_ram_RAM_Store pt50 (IntKind.wrap .u64 ((IntKind.wrap .u64 ((IntKind.wrap .u64 n38) * (4096 : Int))) + (Int.tmod p2 (4096 : Int)))) p3 p5 (fun n51 h52 =>
(f_cpu_check n51 (0 : Int) (0 : Int) (fun h53 =>
(aC (Addr.mk b1 0 none) (.int .u64 (0 : Int)) h53 fun h61 =>
(aC (Addr.mk b3 0 none) (.int .u64 (0 : Int)) h61 fun h62 =>
(aC (Addr.add (Addr.mk b3 0 none) 1) (.int .i64 (0 : Int)) h62 fun h63 =>
(aC (Addr.mk b5 0 none) (.int .i64 (0 : Int)) h63 fun h64 =>
(f_cpu_CPU_Do_1_n (some (Addr.mk b1 0 none)) (some (Addr.mk b3 0 none)) (some (Addr.mk b5 0 none)) (fun h65 =>
(aI .u64 (Addr.mk b1 0 none) h65 fun n66 =>
(aI .u64 (Addr.mk b3 0 none) h65 fun n67 =>
(aI .i64 (Addr.add (Addr.mk b3 0 none) 1) h65 fun n68 =>
(aI .i64 (Addr.mk b5 0 none) h65 fun n69 =>
(Q n66 n67 n68 n69 h65)))))) h64)))))) (fun v54 h55 => (f_cpu_CPU_Do_1_v (some (Addr.mk b1 0 none)) (some (Addr.mk b3 0 none)) (some (Addr.mk b5 0 none)) v54 (fun h56 =>
(aI .u64 (Addr.mk b1 0 none) h56 fun n57 =>
(aI .u64 (Addr.mk b3 0 none) h56 fun n58 =>
(aI .i64 (Addr.add (Addr.mk b3 0 none) 1) h56 fun n59 =>
(aI .i64 (Addr.mk b5 0 none) h56 fun n60 =>
(Q n57 n58 n59 n60 h56)))))) h55)) h52)) h39)))))
(onSome p0 fun a70 =>
(aP a70 h39 fun pt71 =>
(onSome pt71 fun a72 =>
(aP a72 h39 fun pt73 =>
(f_ram_RAM_Load pt73 (IntKind.wrap .u64 ((IntKind.wrap .u64 ((IntKind.wrap .u64 n38) * (4096 : Int))) + (Int.tmod p2 (4096 : Int)))) p3 (fun n74 n75 h76 =>
(aC (Addr.mk b1 0 none) (.int .u64 n74) h76 fun h77 =>
(aC (Addr.mk b5 0 none) (.int .i64 n75) h77 fun h78 =>
(aI .u64 (Addr.mk b1 0 none) h78 fun n79 =>
(aI .i64 (Addr.mk b5 0 none) h78 fun n80 =>
(aC (Addr.mk b1 0 none) (.int .u64 n79) h78 fun h81 =>
((aI .i64 (Addr.mk b5 0 none) h81 fun n82 =>
(((.int .i64 n82) : Value) = (.int .i64 n80))) ∧
(aC (Addr.mk b3 0 none) (.int .u64 (0 : Int)) h81 fun h83 =>
(aC (Addr.add (Addr.mk b3 0 none) 1) (.int .i64 (0 : Int)) h83 fun h84 =>
((aI .i64 (Addr.mk b5 0 none) h84 fun n85 =>
(((.int .i64 n85) : Value) = (.int .i64 n80))) ∧
(aC (Addr.mk b5 0 none) (.int .i64 n80) h84 fun h86 =>
(f_cpu_CPU_Do_1_n (some (Addr.mk b1 0 none)) (some (Addr.mk b3 0 none)) (some (Addr.mk b5 0 none)) (fun h87 =>
(aI .u64 (Addr.mk b1 0 none) h87 fun n88 =>
(aI .u64 (Addr.mk b3 0 none) h87 fun n89 =>
(aI .i64 (Addr.add (Addr.mk b3 0 none) 1) h87 fun n90 =>
(aI .i64 (Addr.mk b5 0 none) h87 fun n91 =>
(Q n88 n89 n90 n91 h87)))))) h86)))))))))))) h39))))))) (fun v40 h41 => (f_cpu_CPU_Do_1_v (some (Addr.mk b1 0 none)) (some (Addr.mk b3 0 none)) (some (Addr.mk b5 0 none)) v40 (fun h42 =>
(aI .u64 (Addr.mk b1 0 none) h42 fun n43 =>
(aI .u64 (Addr.mk b3 0 none) h42 fun n44 =>
(aI .i64 (Addr.add (Addr.mk b3 0 none) 1) h42 fun n45 =>
(aI .i64 (Addr.mk b5 0 none) h42 fun n46 =>
(Q n43 n44 n45 n46 h42)))))) h41)) h37)) ∧
(bsel ((IntKind.wrap .u64 p3) == 0) False
(bsel ((Int.tmod p2 (IntKind.wrap .u64 p3)) != (0 : Int))
(f_cpu_check (1 : Int) (0 : Int) (0 : Int) (fun h21 =>
(R20 h21)) (fun v22 h23 => (f_cpu_CPU_Do_1_v (some (Addr.mk b1 0 none)) (some (Addr.mk b3 0 none)) (some (Addr.mk b5 0 none)) v22 (fun h24 =>
(aI .u64 (Addr.mk b1 0 none) h24 fun n25 =>
(aI .u64 (Addr.mk b3 0 none) h24 fun n26 =>
(aI .i64 (Addr.add (Addr.mk b3 0 none) 1) h24 fun n27 =>
(aI .i64 (Addr.mk b5 0 none) h24 fun n28 =>
(Q n25 n26 n27 n28 h24)))))) h23)) h19)
(bsel (decide (p2 ≥ (140737488355328 : Int)))
(f_cpu_check (1 : Int) (0 : Int) (0 : Int) (fun h29 =>
(R20 h29)) (fun v30 h31 => (f_cpu_CPU_Do_1_v (some (Addr.mk b1 0 none)) (some (Addr.mk b3 0 none)) (some (Addr.mk b5 0 none)) v30 (fun h32 =>
(aI .u64 (Addr.mk b1 0 none) h32 fun n33 =>
(aI .u64 (Addr.mk b3 0 none) h32 fun n34 =>
(aI .i64 (Addr.add (Addr.mk b3 0 none) 1) h32 fun n35 =>
(aI .i64 (Addr.mk b5 0 none) h32 fun n36 =>
(Q n33 n34 n35 n36 h32)))))) h31)) h19)
(R20 h19)))))) ∧
(∃ R8 : Bool → AH → Prop, (∀ b9 : Bool, ∀ h10, R8 b9 h10 → 
(bsel b9
(R7 h10)
(f_cpu_check (1 : Int) (0 : Int) (0 : Int) (fun h11 =>
(R7 h11)) (fun v12 h13 => (f_cpu_CPU_Do_1_v (some (Addr.mk b1 0 none)) (some (Addr.mk b3 0 none)) (some (Addr.mk b5 0 none)) v12 (fun h14 =>
(aI .u64 (Addr.mk b1 0 none) h14 fun n15 =>
(aI .u64 (Addr.mk b3 0 none) h14 fun n16 =>
(aI .i64 (Addr.add (Addr.mk b3 0 none) 1) h14 fun n17 =>
(aI .i64 (Addr.mk b5 0 none) h14 fun n18 =>
(Q n15 n16 n17 n18 h14)))))) h13)) h10))) ∧
(bsel (p3 == (1 : Int))
(R8 (p3 == (1 : Int)) h6)
(bsel (p3 == (2 : Int))
(R8 (p3 == (2 : Int)) h6)
(bsel (p3 == (4 : Int))
(R8 (p3 == (4 : Int)) h6)
(R8 (p3 == (8 : Int)) h6)))))))))
def cpu_CPU_Do_A : cpu_CPU_Do_T := cpu_CPU_Do_G cpu_check_A cpu_CPU_frame_A ram_RAM_Store_A ram_RAM_Load_A cpu_CPU_Do_1_nA (cpu_CPU_Do_1_vA cpu_CPU_Do_1_pA)
def cpu_CPU_Do_W (f : cpu_CPU_Do_T) : ArS [.c .p, .c (.i .i64), .c (.i .u64), .c (.i .i64), .c .b, .c (.i .u64)] EnR := fun p0 p1 p2 p3 p4 p5 K _Kp => f p0 p1 p2 p3 p4 p5 (fun r0 r1 r2 r3 => K (.tuple #[(.int .u64 r0), (.agg #[(.int .u64 r1), (.int .i64 r2)]), (.int .i64 r3)]))

/- demesne/demesnelaw13.awake -/
abbrev demesnelaw13_awake_T := (Bool → AH → Prop) → AP
def demesnelaw13_awake_G (f_demesnelaw13_Begin : demesnelaw13_Begin_T) (f_space_Machine_Open : space_Machine_Open_T) (f_space_Machine_Map : space_Machine_Map_T) (f_cpu_CPU_Do : cpu_CPU_Do_T) (Q : Bool → AH → Prop) (h : AH) : Prop :=
(newA h (.cells #[(.int .i64 (1 : Int)), (.int .i64 (2 : Int))] 3) fun b1 h2 =>
(f_demesnelaw13_Begin (20 : Int) (5 : Int) (Sl.mk (some (Addr.mk b1 0 none)) 2 2) (fun pt3 pt4 s5 s6 n7 mp8 b9 h10 =>
(∃ R11 : AH → Prop, (∀ h20, R11 h20 → 
(f_cpu_CPU_Do pt3 (1 : Int) (8 : Int) (8 : Int) true (5 : Int) (fun n21 n22 n23 n24 h25 =>
(f_cpu_CPU_Do pt3 (1 : Int) (8 : Int) (8 : Int) false (0 : Int) (fun n26 n27 n28 n29 h30 =>
(f_cpu_CPU_Do pt3 (1 : Int) (8192 : Int) (8 : Int) false (0 : Int) (fun n31 n32 n33 n34 h35 =>
(bsel (n24 == (0 : Int))
(bsel (n29 == (0 : Int))
(bsel (n26 == (5 : Int))
(bsel (n34 == (9 : Int))
(Q ((n32 == (8192 : Int)) && ((n33 == (4 : Int)) && true)) h35)
(Q false h35))
(Q false h35))
(Q false h35))
(Q false h35))) h30)) h25)) h20)) ∧
(bsel (!b9)
(Q false h10)
(onSome pt3 fun a12 =>
(aP a12 h10 fun pt13 =>
(f_space_Machine_Open pt13 (1 : Int) (0 : Int) (fun n14 h15 =>
(bsel (n14 != (0 : Int))
(Q false h15)
(onSome pt3 fun a16 =>
(aP a16 h15 fun pt17 =>
(f_space_Machine_Map pt17 (1 : Int) (0 : Int) (2 : Int) true true false (fun n18 h19 =>
(bsel (n18 != (0 : Int))
(Q false h19)
(R11 h19))) h15))))) h10)))))) h2))
def demesnelaw13_awake_A : demesnelaw13_awake_T := demesnelaw13_awake_G demesnelaw13_Begin_A space_Machine_Open_A space_Machine_Map_A cpu_CPU_Do_A
def demesnelaw13_awake_W (f : demesnelaw13_awake_T) : ArS [] EnR := fun  K _Kp => f  (fun r0 => K (.bool r0))

/- demesne/demesnelaw13.few -/
abbrev demesnelaw13_few_T := Sl → Int → (Sl → AH → Prop) → AP
def demesnelaw13_few_A (p0 : Sl) (p1 : Int) (Q : Sl → AH → Prop) (h : AH) : Prop :=
(∃ R1 : Sl → AH → Prop, (∀ s2 : Sl, ∀ h3, R1 s2 h3 → 
(newA h3 (.cells #[] 3) fun b4 h5 =>
(apA 1 8 #[(.int .i64 (0 : Int))] 3 (Sl.mk (some (Addr.mk b4 0 none)) 0 0) s2 h5 fun s6 h7 =>
(Q s6 h7)))) ∧
(bsel (decide ((Int.ofNat p0.len) > p1))
(inB p1 (p0.cap + 1)
(R1 (Sl.mk (if p0.cap = 0 then p0.a else Option.map (fun x => Addr.add x (0 * 1)) p0.a) (Int.toNat p1) p0.cap) h))
(R1 p0 h)))
def demesnelaw13_few_W (f : demesnelaw13_few_T) : ArS [.c .s, .c (.i .i64)] EnR := fun p0 p1 K _Kp => f p0 p1 (fun r0 => K (.slice r0.a r0.len r0.cap))

/- demesne/demesnelaw13.CpuSizes -/
abbrev demesnelaw13_CpuSizes_T := Sl → Int → Int → Int → Int → (Bool → AH → Prop) → AP
def demesnelaw13_CpuSizes_G (f_demesnelaw13_awake : demesnelaw13_awake_T) (f_demesnelaw13_few : demesnelaw13_few_T) (f_demesnelaw13_Begin : demesnelaw13_Begin_T) (f_space_Machine_Open : space_Machine_Open_T) (f_space_Machine_Map : space_Machine_Map_T) (f_cpu_CPU_Do : cpu_CPU_Do_T) (p0 : Sl) (p1 : Int) (p2 : Int) (p3 : Int) (p4 : Int) (Q : Bool → AH → Prop) (h : AH) : Prop :=
(∃ R1 : AH → Prop, (∀ h8, R1 h8 → 
(f_demesnelaw13_few p0 (60 : Int) (fun s9 h10 =>
(f_demesnelaw13_Begin (20 : Int) (2 : Int) s9 (fun pt11 pt12 s13 s14 n15 mp16 b17 h18 =>
(∃ R19 : AH → Prop, (∀ h28, R19 h28 → 
(f_cpu_CPU_Do pt11 (1 : Int) (IntKind.wrap .u64 (IntKind.wrap .i64 ((8 : Int) * p1))) (8 : Int) true p2 (fun n29 n30 n31 n32 h33 =>
(∃ I34 : Int → Int → Nat → AH → Prop, (∃ m35, I34 (0 : Int) (0 : Int) m35 h33) ∧ ∀ x38 : Int, ∀ x39 : Int, ∀ m35 h37, I34 x38 x39 m35 h37 → 
(bsel (decide (x39 < (8 : Int)))
(f_cpu_CPU_Do pt11 (1 : Int) (IntKind.wrap .u64 ((IntKind.wrap .u64 (IntKind.wrap .i64 ((8 : Int) * p1))) + (IntKind.wrap .u64 x39))) p4 false (0 : Int) (fun n40 n41 n42 n43 h44 =>
(bsel (n43 != (0 : Int))
(Q false h44)
(bsel (decide ((IntKind.wrap .i64 ((8 : Int) * x39)) < 0)) False
(∃ m36, m36 < m35 ∧ I34 (bits .or .u64 x38 (IntKind.wrap .u64 (n40 * 2 ^ (min (Int.toNat (IntKind.wrap .i64 ((8 : Int) * x39))) 64)))) (IntKind.wrap .i64 (x39 + p4)) m36 h44)))) h37)
(f_cpu_CPU_Do pt11 (1 : Int) (IntKind.wrap .u64 (IntKind.wrap .i64 ((8 : Int) * p1))) p4 true p3 (fun n45 n46 n47 n48 h49 =>
(f_cpu_CPU_Do pt11 (1 : Int) (IntKind.wrap .u64 (IntKind.wrap .i64 ((8 : Int) * p1))) (8 : Int) false (0 : Int) (fun n50 n51 n52 n53 h54 =>
(∃ R55 : Int → AH → Prop, (∀ x56 : Int, ∀ h57, R55 x56 h57 → 
(f_demesnelaw13_awake (fun b58 h59 =>
(bsel b58
(bsel (n32 == (0 : Int))
(bsel (n48 == (0 : Int))
(bsel (n53 == (0 : Int))
(bsel (x38 == p2)
(Q (n50 == x56) h59)
(Q false h59))
(Q false h59))
(Q false h59))
(Q false h59))
(Q false h59))) h57)) ∧
(bsel (decide (p4 < (8 : Int)))
(bsel (decide ((IntKind.wrap .i64 ((8 : Int) * p4)) < 0)) False
(R55 (bits .or .u64 (bits .andNot .u64 p2 (IntKind.wrap .u64 ((IntKind.wrap .u64 ((1 : Int) * 2 ^ (min (Int.toNat (IntKind.wrap .i64 ((8 : Int) * p4))) 64))) - (1 : Int)))) (bits .and .u64 p3 (IntKind.wrap .u64 ((IntKind.wrap .u64 ((1 : Int) * 2 ^ (min (Int.toNat (IntKind.wrap .i64 ((8 : Int) * p4))) 64))) - (1 : Int))))) h54))
(R55 p3 h54)))) h49)) h37)))) h28)) ∧
(bsel (!b17)
(Q false h18)
(onSome pt11 fun a20 =>
(aP a20 h18 fun pt21 =>
(f_space_Machine_Open pt21 (1 : Int) (0 : Int) (fun n22 h23 =>
(bsel (n22 != (0 : Int))
(Q false h23)
(onSome pt11 fun a24 =>
(aP a24 h23 fun pt25 =>
(f_space_Machine_Map pt25 (1 : Int) (0 : Int) (2 : Int) true true false (fun n26 h27 =>
(bsel (n26 != (0 : Int))
(Q false h27)
(R19 h27))) h23))))) h18)))))) h10)) h8)) ∧
(bsel (decide (p1 < (0 : Int)))
(f_demesnelaw13_awake (fun b2 h3 =>
(Q b2 h3)) h)
(bsel (decide (p1 > (1000 : Int)))
(f_demesnelaw13_awake (fun b4 h5 =>
(Q b4 h5)) h)
(bsel (p4 != (1 : Int))
(bsel (p4 != (2 : Int))
(bsel (p4 != (4 : Int))
(bsel (p4 != (8 : Int))
(f_demesnelaw13_awake (fun b6 h7 =>
(Q b6 h7)) h)
(R1 h))
(R1 h))
(R1 h))
(R1 h)))))
def demesnelaw13_CpuSizes_A : demesnelaw13_CpuSizes_T := demesnelaw13_CpuSizes_G demesnelaw13_awake_A demesnelaw13_few_A demesnelaw13_Begin_A space_Machine_Open_A space_Machine_Map_A cpu_CPU_Do_A
def demesnelaw13_CpuSizes_W (f : demesnelaw13_CpuSizes_T) : ArS [.c .s, .c (.i .i64), .c (.i .u64), .c (.i .u64), .c (.i .i64)] EnR := fun p0 p1 p2 p3 p4 K _Kp => f p0 p1 p2 p3 p4 (fun r0 => K (.bool r0))

end Go.Dn
