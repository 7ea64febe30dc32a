/- Printed by gen3.py: what each function does, as a predicate over a part of the heap. -/
import Derived.Test.YtaafkchlmndbkaaGreatDnY
import Derived.Test.YtaafkchlmndbkaaGreatParseD
import Derived.Test.YtaafkchlmndbkaaGreatDnZ
import Derived.Test.YtaafkchlmndbkaaGreatDnO
import Derived.Test.YtaafkchlmndbkaaGreatDnSI
import Derived.Test.YtaafkchlmndbkaaGreatUseD
namespace Go.Dn
abbrev qaa_T := Int→Int→Int→(Sl→AH→Prop)→AP
def qaa_A (p0 : Int) (p1 : Int) (p2 : Int) (Q : Sl→AH→Prop) (h : AH) : Prop :=
(newA h (.cells (madeCells #[(.int .u8 (0 : Int))] (20 * 1)) 5) fun b1 h2 =>
(∃ I3 : Int→Nat→AH→Prop,(∃ m4,I3 (0 : Int) m4 h2) ∧ ∀ x7 : Int,∀ m4 h6,I3 x7 m4 h6 →
(bsel (decide (x7 < (8 : Int)))
(bsel (decide ((IntKind.wrap .i64 ((8 : Int) * x7)) < 0)) False
(inB x7 20
(aC (Addr.add (Addr.mk b1 0 none) (Int.toNat x7 * 1)) (.int .u8 (IntKind.wrap .u8 (Int.fdiv p0 (2 ^ (min (Int.toNat (IntKind.wrap .i64 ((8 : Int) * x7))) 64))))) h6 fun h8 =>
(bsel (decide ((IntKind.wrap .i64 ((8 : Int) * x7)) < 0)) False
(inB (IntKind.wrap .i64 ((8 : Int) + x7)) 20
(aC (Addr.add (Addr.mk b1 0 none) (Int.toNat (IntKind.wrap .i64 ((8 : Int) + x7)) * 1)) (.int .u8 (IntKind.wrap .u8 (Int.fdiv p1 (2 ^ (min (Int.toNat (IntKind.wrap .i64 ((8 : Int) * x7))) 64))))) h8 fun h9 =>
(∃ m5,m5 < m4 ∧ I3 (IntKind.wrap .i64 (x7 + (1 : Int))) m5 h9)))))))
(∃ I10 : Int→Nat→AH→Prop,(∃ m11,I10 (0 : Int) m11 h6) ∧ ∀ x14 : Int,∀ m11 h13,I10 x14 m11 h13 →
(bsel (decide (x14 < (4 : Int)))
(bsel (decide ((IntKind.wrap .i64 ((8 : Int) * x14)) < 0)) False
(inB (IntKind.wrap .i64 ((16 : Int) + x14)) 20
(aC (Addr.add (Addr.mk b1 0 none) (Int.toNat (IntKind.wrap .i64 ((16 : Int) + x14)) * 1)) (.int .u8 (IntKind.wrap .u8 (Int.fdiv p2 (2 ^ (min (Int.toNat (IntKind.wrap .i64 ((8 : Int) * x14))) 32))))) h13 fun h15 =>
(∃ m12,m12 < m11 ∧ I10 (IntKind.wrap .i64 (x14 + (1 : Int))) m12 h15))))
(Q (Sl.mk (some (Addr.mk b1 0 none)) 20 20) h13))))))
def qaa_W (f : qaa_T) : ArS [.c (.i .u64),.c (.i .u64),.c (.i .u32)] EnR := fun p0 p1 p2 K _Kp => f p0 p1 p2 (fun r0 => K (.slice r0.a r0.len r0.cap))
abbrev qab_T := Int→Int→(Int→Int→Int→Int→Sl→AH→Prop)→AP
def qab_G (f_qaa : qaa_T) (p0 : Int) (p1 : Int) (Q : Int→Int→Int→Int→Sl→AH→Prop) (h : AH) : Prop :=
(f_qaa (0 : Int) (IntKind.wrap .u64 ((IntKind.wrap .u64 p0) * (4096 : Int))) (1 : Int) (fun s1 h2 =>
(Q p0 (0 : Int) (1 : Int) p1 s1 h2)) h)
def qab_A : qab_T := qab_G qaa_A
def qab_W (f : qab_T) : ArS [.c (.i .i64),.c (.i .i64)] EnR := fun p0 p1 K _Kp => f p0 p1 (fun r0 r1 r2 r3 r4 => K (.agg #[(.int .i64 r0),(.int .i64 r1),(.int .i64 r2),(.int .i64 r3),(.slice r4.a r4.len r4.cap)]))
abbrev qac_T := Sl→(Sl→Int→AH→Prop)→AP
def qac_A : qac_T := paA 185
def qac_W (f : qac_T) : ArS [.c .s] EnR := fun p0 K _Kp => f p0 (fun r0 r1 => K (.tuple #[.slice r0.a r0.len r0.cap,.int .i64 r1]))
abbrev qad_T := Int→Int→Int→Int→(Int→Int→AH→Prop)→AP
def qad_A (p0 : Int) (p1 : Int) (p2 : Int) (p3 : Int) (Q : Int→Int→AH→Prop) (h : AH) : Prop :=
(∃ R1 : Int→Int→AH→Prop,(∀ x2 : Int,∀ x3 : Int,∀ h4,R1 x2 x3 h4 →
(∃ R5 : Int→AH→Prop,(∀ x6 : Int,∀ h7,R5 x6 h7 →
(Q ((IntKind.wrap .i64 (if (IntKind.wrap .u64 p3) < x2 then (IntKind.wrap .u64 p3) else x2)) : Int) ((IntKind.wrap .i64 (if (IntKind.wrap .u64 p3) < x6 then (IntKind.wrap .u64 p3) else x6)) : Int) h7)) ∧
(bsel (p1 == (0 : Int))
(R5 x2 h4)
(R5 x3 h4)))) ∧
(bsel (p2 == (1 : Int))
(bsel ((Int.tmod p0 (4096 : Int)) != (0 : Int))
(R1 (IntKind.wrap .u64 ((IntKind.wrap .u64 (Int.tdiv p0 (4096 : Int))) + (1 : Int))) (IntKind.wrap .u64 (Int.tdiv (IntKind.wrap .u64 (p0 + p1)) (4096 : Int))) h)
(R1 (IntKind.wrap .u64 (Int.tdiv p0 (4096 : Int))) (IntKind.wrap .u64 (Int.tdiv (IntKind.wrap .u64 (p0 + p1)) (4096 : Int))) h))
(bsel ((Int.tmod (IntKind.wrap .u64 (p0 + p1)) (4096 : Int)) != (0 : Int))
(R1 (IntKind.wrap .u64 (Int.tdiv p0 (4096 : Int))) (IntKind.wrap .u64 ((IntKind.wrap .u64 (Int.tdiv (IntKind.wrap .u64 (p0 + p1)) (4096 : Int))) + (1 : Int))) h)
(R1 (IntKind.wrap .u64 (Int.tdiv p0 (4096 : Int))) (IntKind.wrap .u64 (Int.tdiv (IntKind.wrap .u64 (p0 + p1)) (4096 : Int))) h))))
def qad_W (f : qad_T) : ArS [.agg [(.i .u64),(.i .u64),(.i .u32)],.c (.i .i64)] EnR := fun p0 p1 p2 p3 K _Kp => f p0 p1 p2 p3 (fun r0 r1 => K (.agg #[(.int .i64 r0),(.int .i64 r1)]))
abbrev qae_T := Sl→(Sl→AH→Prop)→AP
def qae_A (p0 : Sl) (Q : Sl→AH→Prop) (h : AH) : Prop :=
(bsel (Option.isNone p0.a)
(Q Sl.nil h)
(newA h (.cells #[] 44) fun b1 h2 =>
(apA 2 16 #[(.int .i64 (0 : Int)),(.int .i64 (0 : Int))] 44 (Sl.mk (some (Addr.mk b1 0 none)) 0 0) p0 h2 fun s3 h4 =>
(Q s3 h4))))
def qae_W (f : qae_T) : ArS [.c .s] EnR := fun p0 K _Kp => f p0 (fun r0 => K (.slice r0.a r0.len r0.cap))
abbrev qaf_T := Int→Int→(Bool→AH→Prop)→AP
def qaf_A (p0 : Int) (p1 : Int) (Q : Bool→AH→Prop) (h : AH) : Prop :=
(Q (decide (p1 ≤ p0)) h)
def qaf_W (f : qaf_T) : ArS [.agg [(.i .i64),(.i .i64)]] EnR := fun p0 p1 K _Kp => f p0 p1 (fun r0 => K (.bool r0))
abbrev qag_T := Sl→(Int→AH→Prop)→AP
def qag_G (f_qaf : qaf_T) (p0 : Sl) (Q : Int→AH→Prop) (h : AH) : Prop :=
(∃ I1 : Int→Nat→AH→Prop,(∃ m2,I1 (0 : Int) m2 h) ∧ ∀ x5 : Int,∀ m2 h4,I1 x5 m2 h4 →
(bsel (decide (x5 < (Int.ofNat p0.len)))
(onSome p0.a fun a6 =>
(inB x5 p0.len
(aI .i64 (Addr.add a6 (Int.toNat x5 * 2)) h4 fun n7 =>
(aI .i64 (Addr.add (Addr.add a6 (Int.toNat x5 * 2)) 1) h4 fun n8 =>
(f_qaf n7 n8 (fun b9 h10 =>
(bsel b9
(Q x5 h10)
(∃ m3,m3 < m2 ∧ I1 (IntKind.wrap .i64 (x5 + (1 : Int))) m3 h10))) h4)))))
(Q (-1 : Int) h4)))
def qag_A : qag_T := qag_G qaf_A
def qag_W (f : qag_T) : ArS [.c .s,.fn 146 [] []] EnR := fun p0 K _Kp => f p0 (fun r0 => K (.int .i64 r0))
abbrev qah_T := Sl→(Sl→AH→Prop)→AP
def qah_G (f_qag : qag_T) (f_qaf : qaf_T) (p0 : Sl) (Q : Sl→AH→Prop) (h : AH) : Prop :=
(f_qag p0 (fun n1 h2 =>
(bsel (n1 == (-1 : Int))
(Q p0 h2)
(∃ I3 : Int→Int→Nat→AH→Prop,(∃ m4,I3 n1 (IntKind.wrap .i64 (n1 + (1 : Int))) m4 h2) ∧ ∀ x7 : Int,∀ x8 : Int,∀ m4 h6,I3 x7 x8 m4 h6 →
(bsel (decide (x8 < (Int.ofNat p0.len)))
(∃ R9 : Int→AH→Prop,(∀ x18 : Int,∀ h19,R9 x18 h19 →
(∃ m5,m5 < m4 ∧ I3 x18 (IntKind.wrap .i64 (x8 + (1 : Int))) m5 h19)) ∧
(onSome p0.a fun a10 =>
(inB x8 p0.len
(aI .i64 (Addr.add a10 (Int.toNat x8 * 2)) h6 fun n11 =>
(aI .i64 (Addr.add (Addr.add a10 (Int.toNat x8 * 2)) 1) h6 fun n12 =>
(f_qaf n11 n12 (fun b13 h14 =>
(bsel (!b13)
(onSome p0.a fun a15 =>
(inB x7 p0.len
(aC (Addr.add a15 (Int.toNat x7 * 2)) (.int .i64 n11) h14 fun h16 =>
(aC (Addr.add (Addr.add a15 (Int.toNat x7 * 2)) 1) (.int .i64 n12) h16 fun h17 =>
(R9 (IntKind.wrap .i64 (x7 + (1 : Int))) h17)))))
(R9 x7 h14))) h6))))))
(inB x7 (p0.len + 1)
(clrA #[(.int .i64 (0 : Int)),(.int .i64 (0 : Int))] (Sl.mk (if p0.cap = (Int.toNat x7) then p0.a else Option.map (fun x => Addr.add x ((Int.toNat x7) * 2)) p0.a) (p0.len - (Int.toNat x7)) (p0.cap - (Int.toNat x7))) h6 fun h20 =>
(inB x7 (p0.cap + 1)
(Q (Sl.mk (if p0.cap = 0 then p0.a else Option.map (fun x => Addr.add x (0 * 2)) p0.a) (Int.toNat x7) p0.cap) h20)))))))) h)
def qah_A : qah_T := qah_G qag_A qaf_A
def qah_W (f : qah_T) : ArS [.c .s,.fn 146 [] []] EnR := fun p0 K _Kp => f p0 (fun r0 => K (.slice r0.a r0.len r0.cap))
abbrev qai_T := Sl→AP→AP
def qai_A : qai_T := soA rgE (Go.Proofs.ltOf rgCf) 2
def qai_W (f : qai_T) : ArS [.c .s,.fn 148 [] []] EnR := fun p0 K _Kp => f p0 (K (.tuple #[]))
abbrev qaj_T := Sl→(Sl→AH→Prop)→AP
def qaj_G (f_qae : qae_T) (f_qah : qah_T) (f_qai : qai_T) (p0 : Sl) (Q : Sl→AH→Prop) (h : AH) : Prop :=
(f_qae p0 (fun s1 h2 =>
(f_qah s1 (fun s3 h4 =>
(f_qai s3 (fun h5 =>
(∃ I6 : Sl→Int→Nat→AH→Prop,(∃ m7,I6 Sl.nil (0 : Int) m7 h5) ∧ ∀ s10 : Sl,∀ x11 : Int,∀ m7 h9,I6 s10 x11 m7 h9 →
(bsel (decide (x11 < (Int.ofNat s3.len)))
(∃ R12 : Sl→AH→Prop,(∀ s29 : Sl,∀ h30,R12 s29 h30 →
(∃ m8,m8 < m7 ∧ I6 s29 (IntKind.wrap .i64 (x11 + (1 : Int))) m8 h30)) ∧
(onSome s3.a fun a13 =>
(inB x11 s3.len
(aI .i64 (Addr.add a13 (Int.toNat x11 * 2)) h9 fun n14 =>
(aI .i64 (Addr.add (Addr.add a13 (Int.toNat x11 * 2)) 1) h9 fun n15 =>
(∃ R16 : Bool→AH→Prop,(∀ b19 : Bool,∀ h20,R16 b19 h20 →
(bsel b19
(onSome s10.a fun a21 =>
(inB (IntKind.wrap .i64 ((Int.ofNat s10.len) - (1 : Int))) s10.len
(aI .i64 (Addr.add (Addr.add a21 (Int.toNat (IntKind.wrap .i64 ((Int.ofNat s10.len) - (1 : Int))) * 2)) 1) h20 fun n22 =>
(onSome s10.a fun a23 =>
(inB (IntKind.wrap .i64 ((Int.ofNat s10.len) - (1 : Int))) s10.len
(aC (Addr.add (Addr.add a23 (Int.toNat (IntKind.wrap .i64 ((Int.ofNat s10.len) - (1 : Int))) * 2)) 1) (.int .i64 (if n15 > n22 then n15 else n22)) h20 fun h24 =>
(R12 s10 h24)))))))
(newA h20 (.cells #[(.int .i64 n14),(.int .i64 n15)] 44) fun b25 h26 =>
(apA 2 16 #[(.int .i64 (0 : Int)),(.int .i64 (0 : Int))] 44 s10 (Sl.mk (some (Addr.mk b25 0 none)) 1 1) h26 fun s27 h28 =>
(R12 s27 h28))))) ∧
(bsel (decide ((Int.ofNat s10.len) > (0 : Int)))
(onSome s10.a fun a17 =>
(inB (IntKind.wrap .i64 ((Int.ofNat s10.len) - (1 : Int))) s10.len
(aI .i64 (Addr.add (Addr.add a17 (Int.toNat (IntKind.wrap .i64 ((Int.ofNat s10.len) - (1 : Int))) * 2)) 1) h9 fun n18 =>
(R16 (decide (n14 ≤ n18)) h9))))
(R16 false h9))))))))
(Q s10 h9)))) h4)) h2)) h)
def qaj_A : qaj_T := qaj_G qae_A qah_A qai_A
def qaj_W (f : qaj_T) : ArS [.c .s] EnR := fun p0 K _Kp => f p0 (fun r0 => K (.slice r0.a r0.len r0.cap))
abbrev qak_T := Sl→Sl→(Sl→AH→Prop)→AP
def qak_G (f_qaj : qaj_T) (p0 : Sl) (p1 : Sl) (Q : Sl→AH→Prop) (h : AH) : Prop :=
(f_qaj p1 (fun s1 h2 =>
(f_qaj p0 (fun s3 h4 =>
(∃ I5 : Sl→Int→Nat→AH→Prop,(∃ m6,I5 Sl.nil (0 : Int) m6 h4) ∧ ∀ s9 : Sl,∀ x10 : Int,∀ m6 h8,I5 s9 x10 m6 h8 →
(bsel (decide (x10 < (Int.ofNat s3.len)))
(∃ R11 : Sl→AH→Prop,(∀ s40 : Sl,∀ h41,R11 s40 h41 →
(∃ m7,m7 < m6 ∧ I5 s40 (IntKind.wrap .i64 (x10 + (1 : Int))) m7 h41)) ∧
(onSome s3.a fun a12 =>
(inB x10 s3.len
(aI .i64 (Addr.add a12 (Int.toNat x10 * 2)) h8 fun n13 =>
(aI .i64 (Addr.add (Addr.add a12 (Int.toNat x10 * 2)) 1) h8 fun n14 =>
(∃ I15 : Sl→Int→Int→Nat→AH→Prop,(∃ m16,I15 s9 n13 (0 : Int) m16 h8) ∧ ∀ s19 : Sl,∀ x20 : Int,∀ x21 : Int,∀ m16 h18,I15 s19 x20 x21 m16 h18 →
(bsel (decide (x21 < (Int.ofNat s1.len)))
(∃ R22 : Sl→Int→AH→Prop,(∀ s33 : Sl,∀ x34 : Int,∀ h35,R22 s33 x34 h35 →
(∃ m17,m17 < m16 ∧ I15 s33 x34 (IntKind.wrap .i64 (x21 + (1 : Int))) m17 h35)) ∧
(onSome s1.a fun a23 =>
(inB x21 s1.len
(aI .i64 (Addr.add a23 (Int.toNat x21 * 2)) h18 fun n24 =>
(aI .i64 (Addr.add (Addr.add a23 (Int.toNat x21 * 2)) 1) h18 fun n25 =>
(bsel (decide (n25 ≤ x20))
(R22 s19 x20 h18)
(bsel (decide (n24 ≥ n14))
(R22 s19 x20 h18)
(∃ R26 : Sl→AH→Prop,(∀ s31 : Sl,∀ h32,R26 s31 h32 →
(R22 s31 (if n25 > x20 then n25 else x20) h32)) ∧
(bsel (decide (n24 > x20))
(newA h18 (.cells #[(.int .i64 x20),(.int .i64 n24)] 44) fun b27 h28 =>
(apA 2 16 #[(.int .i64 (0 : Int)),(.int .i64 (0 : Int))] 44 s19 (Sl.mk (some (Addr.mk b27 0 none)) 1 1) h28 fun s29 h30 =>
(R26 s29 h30)))
(R26 s19 h18))))))))))
(bsel (decide (x20 < n14))
(newA h18 (.cells #[(.int .i64 x20),(.int .i64 n14)] 44) fun b36 h37 =>
(apA 2 16 #[(.int .i64 (0 : Int)),(.int .i64 (0 : Int))] 44 s19 (Sl.mk (some (Addr.mk b36 0 none)) 1 1) h37 fun s38 h39 =>
(R11 s38 h39)))
(R11 s19 h18)))))))))
(Q s9 h8)))) h2)) h)
def qak_A : qak_T := qak_G qaj_A
def qak_W (f : qak_T) : ArS [.c .s,.c .s] EnR := fun p0 p1 K _Kp => f p0 p1 (fun r0 => K (.slice r0.a r0.len r0.cap))
abbrev qal_T := Sl→Int→Int→Int→(Sl→Int→AH→Prop)→AP
def qal_G (f_qac : qac_T) (f_qad : qad_T) (f_qak : qak_T) (p0 : Sl) (p1 : Int) (p2 : Int) (p3 : Int) (Q : Sl→Int→AH→Prop) (h : AH) : Prop :=
(∃ R1 : AH→Prop,(∀ h2,R1 h2 →
(f_qac p0 (fun s3 n4 h5 =>
(bsel (n4 != (0 : Int))
(Q Sl.nil n4 h5)
(newA h5 (.cells #[(.int .i64 p2),(.int .i64 p3)] 44) fun b6 h7 =>
(∃ I8 : Sl→Sl→Int→Nat→AH→Prop,(∃ m9,I8 Sl.nil (Sl.mk (some (Addr.mk b6 0 none)) 1 1) (0 : Int) m9 h7) ∧ ∀ s12 : Sl,∀ s13 : Sl,∀ x14 : Int,∀ m9 h11,I8 s12 s13 x14 m9 h11 →
(bsel (decide (x14 < (Int.ofNat s3.len)))
(∃ R15 : Sl→Sl→AH→Prop,(∀ s31 : Sl,∀ s32 : Sl,∀ h33,R15 s31 s32 h33 →
(∃ m10,m10 < m9 ∧ I8 s31 s32 (IntKind.wrap .i64 (x14 + (1 : Int))) m10 h33)) ∧
(onSome s3.a fun a16 =>
(inB x14 s3.len
(aI .u64 (Addr.add a16 (Int.toNat x14 * 3)) h11 fun n17 =>
(aI .u64 (Addr.add (Addr.add a16 (Int.toNat x14 * 3)) 1) h11 fun n18 =>
(aI .u32 (Addr.add (Addr.add a16 (Int.toNat x14 * 3)) 2) h11 fun n19 =>
(f_qad n17 n18 n19 p1 (fun n20 n21 h22 =>
(bsel (n19 == (1 : Int))
(newA h22 (.cells #[(.int .i64 n20),(.int .i64 n21)] 44) fun b23 h24 =>
(apA 2 16 #[(.int .i64 (0 : Int)),(.int .i64 (0 : Int))] 44 s12 (Sl.mk (some (Addr.mk b23 0 none)) 1 1) h24 fun s25 h26 =>
(R15 s25 s13 h26)))
(newA h22 (.cells #[(.int .i64 n20),(.int .i64 n21)] 44) fun b27 h28 =>
(apA 2 16 #[(.int .i64 (0 : Int)),(.int .i64 (0 : Int))] 44 s13 (Sl.mk (some (Addr.mk b27 0 none)) 1 1) h28 fun s29 h30 =>
(R15 s12 s29 h30))))) h11)))))))
(f_qak s12 s13 (fun s34 h35 =>
(bsel ((Int.ofNat s34.len) == (0 : Int))
(Q Sl.nil (7 : Int) h35)
(Q s34 (0 : Int) h35))) h11)))))) h2)) ∧
(bsel (decide (p1 < (1 : Int)))
(Q Sl.nil (1 : Int) h)
(bsel (decide (p1 > (1048576 : Int)))
(Q Sl.nil (1 : Int) h)
(bsel (decide (p2 < (0 : Int)))
(Q Sl.nil (1 : Int) h)
(bsel (decide (p3 < p2))
(Q Sl.nil (1 : Int) h)
(bsel (decide (p3 > p1))
(Q Sl.nil (1 : Int) h)
(R1 h)))))))
def qal_A : qal_T := qal_G qac_A qad_A qak_A
def qal_W (f : qal_T) : ArS [.c .s,.c (.i .i64),.agg [(.i .i64),(.i .i64)]] EnR := fun p0 p1 p2 p3 K _Kp => f p0 p1 p2 p3 (fun r0 r1 => K (.tuple #[(.slice r0.a r0.len r0.cap),(.int .i64 r1)]))
abbrev qam_T := Option Addr→(AH→Prop)→AP
def qam_A (p0 : Option Addr) (Q : AH→Prop) (h : AH) : Prop :=
(newA h (.map #[] 0) fun b1 h2 =>
(newA h2 (.map #[] 0) fun b3 h4 =>
(onSome p0 fun a5 =>
(aC (Addr.add a5 1) (.int .i64 (1 : Int)) h4 fun h6 =>
(onSome p0 fun a7 =>
(aC (Addr.add a7 3) (.map (some b1)) h6 fun h8 =>
(onSome p0 fun a9 =>
(aC (Addr.add a9 4) (.map (some b3)) h8 fun h10 =>
(Q h10)))))))))
def qam_W (f : qam_T) : ArS [.c .p] EnR := fun p0 K _Kp => f p0 (K (.tuple #[]))
abbrev qan_T := Int→(Option Addr→Int→AH→Prop)→AP
def qan_G (f_qam : qam_T) (p0 : Int) (Q : Option Addr→Int→AH→Prop) (h : AH) : Prop :=
(bsel (decide (p0 < (1 : Int)))
(Q none (1 : Int) h)
(bsel (decide (p0 > (4095 : Int)))
(Q none (1 : Int) h)
(newA h (.cells #[(.int .i64 p0),(.int .i64 (0 : Int)),(.int .i64 (0 : Int)),(.map none),(.map none)] 169) fun b1 h2 =>
(f_qam (some (Addr.mk b1 0 none)) (fun h3 =>
(Q (some (Addr.mk b1 0 none)) (0 : Int) h3)) h2))))
def qan_A : qan_T := qan_G qam_A
def qan_W (f : qan_T) : ArS [.c (.i .i64)] EnR := fun p0 K _Kp => f p0 (fun r0 r1 => K (.tuple #[(.pointer r0),(.int .i64 r1)]))
abbrev qao_T := Int→Sl→(Option Addr→Int→AH→Prop)→AP
def qao_A (p0 : Int) (p1 : Sl) (Q : Option Addr→Int→AH→Prop) (h : AH) : Prop :=
(bsel (decide (p0 < (1 : Int)))
(Q none (1 : Int) h)
(∃ R1 : AH→Prop,(∀ h2,R1 h2 →
(∃ I3 : Int→Nat→AH→Prop,(∃ m4,I3 (0 : Int) m4 h2) ∧ ∀ x7 : Int,∀ m4 h6,I3 x7 m4 h6 →
(bsel (decide (x7 < (Int.ofNat p1.len)))
(onSome p1.a fun a8 =>
(inB x7 p1.len
(aI .i64 (Addr.add a8 (Int.toNat x7 * 2)) h6 fun n9 =>
(aI .i64 (Addr.add (Addr.add a8 (Int.toNat x7 * 2)) 1) h6 fun n10 =>
(bsel (decide (n9 < (0 : Int)))
(Q none (3 : Int) h6)
(bsel (decide (n10 < n9))
(Q none (3 : Int) h6)
(bsel (decide (n10 > p0))
(Q none (3 : Int) h6)
(∃ m5,m5 < m4 ∧ I3 (IntKind.wrap .i64 (x7 + (1 : Int))) m5 h6))))))))
(apA 2 16 #[(.int .i64 (0 : Int)),(.int .i64 (0 : Int))] 44 Sl.nil p1 h6 fun s11 h12 =>
(newA h12 (.map #[] 0) fun b13 h14 =>
(newA h14 (.cells #[(.int .i64 p0),(.slice s11.a s11.len s11.cap),(.map (some b13))] 190) fun b15 h16 =>
(Q (some (Addr.mk b15 0 none)) (0 : Int) h16))))))) ∧
(bsel (decide (p0 > (1048576 : Int)))
(Q none (4 : Int) h)
(bsel (decide ((Int.ofNat p1.len) > (64 : Int)))
(Q none (4 : Int) h)
(R1 h)))))
def qao_W (f : qao_T) : ArS [.c (.i .i64),.c .s] EnR := fun p0 p1 K _Kp => f p0 p1 (fun r0 r1 => K (.tuple #[(.pointer r0),(.int .i64 r1)]))
abbrev qap_T := Option Addr→Int→Int→(AH→Prop)→AP
def qap_A (p0 : Option Addr) (p1 : Int) (p2 : Int) (Q : AH→Prop) (h : AH) : Prop :=
(∃ I1 : Int→Int→Nat→AH→Prop,(∃ m2,I1 p1 p2 m2 h) ∧ ∀ x5 : Int,∀ x6 : Int,∀ m2 h4,I1 x5 x6 m2 h4 →
(bsel (decide (x6 < (10 : Int)))
(onSome p0 fun a7 =>
(inB x6 11
(aM (Addr.add a7 (Int.toNat x6 * 1)) h4 fun mp8 =>
(bsel (decide (x6 < 0)) False
(aLk h4 mp8 .i64 (bits .xor .i64 x5 (IntKind.wrap .i64 ((1 : Int) * 2 ^ (min (Int.toNat x6) 64)))) fun o9 =>
(∃ b10 : Bool,((o9.getD (.bool false)) : Value) = (.bool b10) ∧
(bsel b10
(onSome p0 fun a11 =>
(inB x6 11
(aM (Addr.add a11 (Int.toNat x6 * 1)) h4 fun mp12 =>
(bsel (decide (x6 < 0)) False
(aMDl h4 mp12 .i64 (bits .xor .i64 x5 (IntKind.wrap .i64 ((1 : Int) * 2 ^ (min (Int.toNat x6) 64)))) fun h13 =>
(bsel (decide (x6 < 0)) False
(∃ m3,m3 < m2 ∧ I1 (bits .andNot .i64 x5 (IntKind.wrap .i64 ((1 : Int) * 2 ^ (min (Int.toNat x6) 64)))) (IntKind.wrap .i64 (x6 + (1 : Int))) m3 h13)))))))
(onSome p0 fun a14 =>
(inB x6 11
(aM (Addr.add a14 (Int.toNat x6 * 1)) h4 fun mp15 =>
(aMSt h4 mp15 .i64 x5 (.bool true) fun h16 =>
(Q h16))))))))))))
(onSome p0 fun a17 =>
(inB x6 11
(aM (Addr.add a17 (Int.toNat x6 * 1)) h4 fun mp18 =>
(aMSt h4 mp18 .i64 x5 (.bool true) fun h19 =>
(Q h19)))))))
def qap_W (f : qap_T) : ArS [.c .p,.c (.i .i64),.c (.i .i64)] EnR := fun p0 p1 p2 K _Kp => f p0 p1 p2 (K (.tuple #[]))
abbrev qaq_T := Sl→(Option Addr→Int→AH→Prop)→AP
def qaq_G (f_qap : qap_T) (p0 : Sl) (Q : Option Addr→Int→AH→Prop) (h : AH) : Prop :=
(bsel (decide ((Int.ofNat p0.len) > (64 : Int)))
(Q none (4 : Int) h)
(∃ I1 : Int→Int→Nat→AH→Prop,(∃ m2,I1 (0 : Int) (0 : Int) m2 h) ∧ ∀ x5 : Int,∀ x6 : Int,∀ m2 h4,I1 x5 x6 m2 h4 →
(bsel (decide (x6 < (Int.ofNat p0.len)))
(onSome p0.a fun a7 =>
(inB x6 p0.len
(aI .i64 (Addr.add a7 (Int.toNat x6 * 2)) h4 fun n8 =>
(aI .i64 (Addr.add (Addr.add a7 (Int.toNat x6 * 2)) 1) h4 fun n9 =>
(bsel (decide (n8 < x5))
(Q none (3 : Int) h4)
(bsel (decide (n9 ≤ n8))
(Q none (3 : Int) h4)
(bsel (decide (n9 > (1048576 : Int)))
(Q none (3 : Int) h4)
(∃ m3,m3 < m2 ∧ I1 n9 (IntKind.wrap .i64 (x6 + (1 : Int))) m3 h4))))))))
(newA h4 (.map #[] 0) fun b10 h11 =>
(newA h11 (.cells #[(.map none),(.map none),(.map none),(.map none),(.map none),(.map none),(.map none),(.map none),(.map none),(.map none),(.map none),(.map (some b10)),(.int .i64 (0 : Int))] 152) fun b12 h13 =>
(∃ I14 : Int→Nat→AH→Prop,(∃ m15,I14 (0 : Int) m15 h13) ∧ ∀ x18 : Int,∀ m15 h17,I14 x18 m15 h17 →
(bsel (decide (x18 < (11 : Int)))
(newA h17 (.map #[] 0) fun b19 h20 =>
(inB x18 11
(aC (Addr.add (Addr.mk b12 0 none) (Int.toNat x18 * 1)) (.map (some b19)) h20 fun h21 =>
(∃ m16,m16 < m15 ∧ I14 (IntKind.wrap .i64 (x18 + (1 : Int))) m16 h21))))
(∃ I22 : Int→Nat→AH→Prop,(∃ m23,I22 (0 : Int) m23 h17) ∧ ∀ x26 : Int,∀ m23 h25,I22 x26 m23 h25 →
(bsel (decide (x26 < (Int.ofNat p0.len)))
(onSome p0.a fun a27 =>
(inB x26 p0.len
(aI .i64 (Addr.add a27 (Int.toNat x26 * 2)) h25 fun n28 =>
(aI .i64 (Addr.add (Addr.add a27 (Int.toNat x26 * 2)) 1) h25 fun n29 =>
(∃ I30 : Int→Nat→AH→Prop,(∃ m31,I30 n28 m31 h25) ∧ ∀ x34 : Int,∀ m31 h33,I30 x34 m31 h33 →
(bsel (decide (x34 < n29))
(∃ I35 : Int→Nat→AH→Prop,(∃ m36,I35 (0 : Int) m36 h33) ∧ ∀ x39 : Int,∀ m36 h38,I35 x39 m36 h38 →
(bsel (decide (x39 < (10 : Int)))
(bsel (decide (x39 < 0)) False
(bsel ((bits .and .i64 x34 (IntKind.wrap .i64 ((1 : Int) * 2 ^ (min (Int.toNat x39) 64)))) == (0 : Int))
(bsel (decide (x39 < 0)) False
(bsel (decide ((IntKind.wrap .i64 (x34 + (IntKind.wrap .i64 ((2 : Int) * 2 ^ (min (Int.toNat x39) 64))))) ≤ n29))
(∃ m37,m37 < m36 ∧ I35 (IntKind.wrap .i64 (x39 + (1 : Int))) m37 h38)
(f_qap (some (Addr.mk b12 0 none)) x34 x39 (fun h40 =>
(bsel (decide (x39 < 0)) False
(∃ m32,m32 < m31 ∧ I30 (IntKind.wrap .i64 (x34 + (IntKind.wrap .i64 ((1 : Int) * 2 ^ (min (Int.toNat x39) 64))))) m32 h40))) h38)))
(f_qap (some (Addr.mk b12 0 none)) x34 x39 (fun h41 =>
(bsel (decide (x39 < 0)) False
(∃ m32,m32 < m31 ∧ I30 (IntKind.wrap .i64 (x34 + (IntKind.wrap .i64 ((1 : Int) * 2 ^ (min (Int.toNat x39) 64))))) m32 h41))) h38)))
(f_qap (some (Addr.mk b12 0 none)) x34 x39 (fun h42 =>
(bsel (decide (x39 < 0)) False
(∃ m32,m32 < m31 ∧ I30 (IntKind.wrap .i64 (x34 + (IntKind.wrap .i64 ((1 : Int) * 2 ^ (min (Int.toNat x39) 64))))) m32 h42))) h38)))
(aI .i64 (Addr.add (Addr.mk b12 0 none) 12) h33 fun n43 =>
(aC (Addr.add (Addr.mk b12 0 none) 12) (.int .i64 (IntKind.wrap .i64 (n43 + (IntKind.wrap .i64 (n29 - n28))))) h33 fun h44 =>
(∃ m24,m24 < m23 ∧ I22 (IntKind.wrap .i64 (x26 + (1 : Int))) m24 h44)))))))))
(Q (some (Addr.mk b12 0 none)) (0 : Int) h25))))))))))
def qaq_A : qaq_T := qaq_G qap_A
def qaq_W (f : qaq_T) : ArS [.c .s] EnR := fun p0 K _Kp => f p0 (fun r0 r1 => K (.tuple #[(.pointer r0),(.int .i64 r1)]))
abbrev qar_T := Option Addr→(Int→AH→Prop)→AP
def qar_A (p0 : Option Addr) (Q : Int→AH→Prop) (h : AH) : Prop :=
(onSome p0 fun a1 =>
(aI .i64 (Addr.add a1 12) h fun n2 =>
(Q n2 h)))
def qar_W (f : qar_T) : ArS [.c .p] EnR := fun p0 K _Kp => f p0 (fun r0 => K (.int .i64 r0))
abbrev qas_T := Int→(Option Addr→Int→AH→Prop)→AP
def qas_A (p0 : Int) (Q : Option Addr→Int→AH→Prop) (h : AH) : Prop :=
(bsel (decide (p0 < (0 : Int)))
(Q none (1 : Int) h)
(bsel (decide (p0 > (1048576 : Int)))
(Q none (1 : Int) h)
(newA h (.cells #[(.int .i64 (-1 : Int)),(.int .i64 p0),(.int .i64 (0 : Int)),(.int .i64 (0 : Int)),(.bool true)] 87) fun b1 h2 =>
(newA h2 (.cells #[(.slice (some (Addr.mk b1 0 none)) 1 1)] 158) fun b3 h4 =>
(Q (some (Addr.mk b3 0 none)) (0 : Int) h4)))))
def qas_W (f : qas_T) : ArS [.c (.i .i64)] EnR := fun p0 K _Kp => f p0 (fun r0 r1 => K (.tuple #[(.pointer r0),(.int .i64 r1)]))
abbrev qat_T := Option Addr→Int→(Option Addr→Option Addr→Option Addr→Int→AH→Prop)→AP
def qat_A (p0 : Option Addr) (p1 : Int) (Q : Option Addr→Option Addr→Option Addr→Int→AH→Prop) (h : AH) : Prop :=
(onSome p0 fun a1 =>
(aP a1 h fun pt2 =>
(onSome p0 fun a3 =>
(aP (Addr.add a3 1) h fun pt4 =>
(onSome p0 fun a5 =>
(aP (Addr.add a5 2) h fun pt6 =>
(Q pt2 pt4 pt6 p1 h)))))))
def qat_W (f : qat_T) : ArS [.c .p,.c (.i .i64)] EnR := fun p0 p1 K _Kp => f p0 p1 (fun r0 r1 r2 r3 => K (.agg #[(.pointer r0),(.pointer r1),(.pointer r2),(.int .i64 r3)]))
abbrev qau_T := Option Addr→Int→(Option Addr→Bool→AH→Prop)→AP
def qau_A (p0 : Option Addr) (p1 : Int) (Q : Option Addr→Bool→AH→Prop) (h : AH) : Prop :=
(bsel (decide (p1 < (0 : Int)))
(Q none false h)
(onSome p0 fun a1 =>
(aS a1 h fun s2 =>
(bsel (decide (p1 ≥ (Int.ofNat s2.len)))
(Q none false h)
(onSome p0 fun a3 =>
(aS a3 h fun s4 =>
(onSome s4.a fun a5 =>
(inB p1 s4.len
(aB (Addr.add (Addr.add a5 (Int.toNat p1 * 5)) 4) h fun b6 =>
(bsel (!b6)
(Q none false h)
(onSome p0 fun a7 =>
(aS a7 h fun s8 =>
(onSome s8.a fun a9 =>
(inB p1 s8.len
(Q (some (Addr.add a9 (Int.toNat p1 * 5))) true h)))))))))))))))
def qau_W (f : qau_T) : ArS [.c .p,.c (.i .i64)] EnR := fun p0 p1 K _Kp => f p0 p1 (fun r0 r1 => K (.tuple #[(.pointer r0),(.bool r1)]))
abbrev qav_T := Option Addr→Int→(Int→AH→Prop)→AP
def qav_G (f_qau : qau_T) (p0 : Option Addr) (p1 : Int) (Q : Int→AH→Prop) (h : AH) : Prop :=
(f_qau p0 p1 (fun pt1 b2 h3 =>
(bsel (!b2)
(Q (0 : Int) h3)
(onSome pt1 fun a4 =>
(aI .i64 (Addr.add a4 1) h3 fun n5 =>
(onSome pt1 fun a6 =>
(aI .i64 (Addr.add a6 2) h3 fun n7 =>
(onSome pt1 fun a8 =>
(aI .i64 (Addr.add a8 3) h3 fun n9 =>
(Q (IntKind.wrap .i64 ((IntKind.wrap .i64 (n5 - n7)) - n9)) h3))))))))) h)
def qav_A : qav_T := qav_G qau_A
def qav_W (f : qav_T) : ArS [.c .p,.c (.i .i64)] EnR := fun p0 p1 K _Kp => f p0 p1 (fun r0 => K (.int .i64 r0))
abbrev qaw_T := Option Addr→Int→Int→(Int→AH→Prop)→AP
def qaw_G (f_qau : qau_T) (f_qav : qav_T) (p0 : Option Addr) (p1 : Int) (p2 : Int) (Q : Int→AH→Prop) (h : AH) : Prop :=
(f_qau p0 p1 (fun pt1 b2 h3 =>
(bsel (!b2)
(Q (5 : Int) h3)
(bsel (decide (p2 < (0 : Int)))
(Q (1 : Int) h3)
(f_qav p0 p1 (fun n4 h5 =>
(bsel (decide (p2 > n4))
(Q (8 : Int) h5)
(onSome pt1 fun a6 =>
(aI .i64 (Addr.add a6 2) h5 fun n7 =>
(onSome pt1 fun a8 =>
(aC (Addr.add a8 2) (.int .i64 (IntKind.wrap .i64 (n7 + p2))) h5 fun h9 =>
(Q (0 : Int) h9))))))) h3)))) h)
def qaw_A : qaw_T := qaw_G qau_A qav_A
def qaw_W (f : qaw_T) : ArS [.c .p,.c (.i .i64),.c (.i .i64)] EnR := fun p0 p1 p2 K _Kp => f p0 p1 p2 (fun r0 => K (.int .i64 r0))
abbrev qax_T := Option Nat→(Option Addr→AH→Prop)→AP
def qax_A (p0 : Option Nat) (Q : Option Addr→AH→Prop) (h : AH) : Prop :=
(newA h (.cells #[(.map p0)] 149) fun b1 h2 =>
(Q (some (Addr.mk b1 0 none)) h2))
def qax_W (f : qax_T) : ArS [.c .m] EnR := fun p0 K _Kp => f p0 (fun r0 => K (.func (.func 104) #[] #[(.pointer r0)]))
abbrev qay_T := Option Addr→(Sl→AH→Prop)→AP
def qay_A : qay_T := clA 3
def qay_W (f : qay_T) : ArS [.fn 104 [] [.p]] EnR := fun p0 K _Kp => f p0 (fun r0 => K (.slice r0.a r0.len r0.cap))
abbrev qaz_T := Sl→(Int→AH→Prop)→AP
def qaz_A (p0 : Sl) (Q : Int→AH→Prop) (h : AH) : Prop :=
(∃ R1 : AH→Prop,(∀ h2,R1 h2 →
(onSome p0.a fun a3 =>
(inB (0 : Int) p0.len
(aI .i64 a3 h2 fun n4 =>
(∃ I5 : Int→Int→Nat→AH→Prop,(∃ m6,I5 n4 (1 : Int) m6 h2) ∧ ∀ x9 : Int,∀ x10 : Int,∀ m6 h8,I5 x9 x10 m6 h8 →
(bsel (decide (x10 < (Int.ofNat p0.len)))
(onSome p0.a fun a11 =>
(inB x10 p0.len
(aI .i64 (Addr.add a11 (Int.toNat x10 * 1)) h8 fun n12 =>
(∃ m7,m7 < m6 ∧ I5 (if n12 < x9 then n12 else x9) (IntKind.wrap .i64 (x10 + (1 : Int))) m7 h8))))
(Q x9 h8))))))) ∧
(bsel (decide ((Int.ofNat p0.len) < (1 : Int)))
False
(R1 h)))
def qaz_W (f : qaz_T) : ArS [.c .s] EnR := fun p0 K _Kp => f p0 (fun r0 => K (.int .i64 r0))
abbrev qba_T := Option Addr→Int→(Int→Int→AH→Prop)→AP
def qba_G (f_qax : qax_T) (f_qay : qay_T) (f_qaz : qaz_T) (p0 : Option Addr) (p1 : Int) (Q : Int→Int→AH→Prop) (h : AH) : Prop :=
(∃ R1 : AH→Prop,(∀ h2,R1 h2 →
(∃ R3 : Int→AH→Prop,(∀ x12 : Int,∀ h13,R3 x12 h13 →
(bsel (decide (x12 > (10 : Int)))
(Q (0 : Int) (7 : Int) h13)
(onSome p0 fun a14 =>
(inB x12 11
(aM (Addr.add a14 (Int.toNat x12 * 1)) h13 fun mp15 =>
(f_qax mp15 (fun pt16 h17 =>
(f_qay pt16 (fun s18 h19 =>
(f_qaz s18 (fun n20 h21 =>
(onSome p0 fun a22 =>
(inB x12 11
(aM (Addr.add a22 (Int.toNat x12 * 1)) h21 fun mp23 =>
(aMDl h21 mp23 .i64 n20 fun h24 =>
(∃ I25 : Int→Nat→AH→Prop,(∃ m26,I25 x12 m26 h24) ∧ ∀ x29 : Int,∀ m26 h28,I25 x29 m26 h28 →
(bsel (decide (x29 > p1))
(onSome p0 fun a30 =>
(inB (IntKind.wrap .i64 (x29 - (1 : Int))) 11
(aM (Addr.add a30 (Int.toNat (IntKind.wrap .i64 (x29 - (1 : Int))) * 1)) h28 fun mp31 =>
(bsel (decide ((IntKind.wrap .i64 (x29 - (1 : Int))) < 0)) False
(aMSt h28 mp31 .i64 (IntKind.wrap .i64 (n20 + (IntKind.wrap .i64 ((1 : Int) * 2 ^ (min (Int.toNat (IntKind.wrap .i64 (x29 - (1 : Int)))) 64))))) (.bool true) fun h32 =>
(∃ m27,m27 < m26 ∧ I25 (IntKind.wrap .i64 (x29 - (1 : Int))) m27 h32))))))
(onSome p0 fun a33 =>
(aM (Addr.add a33 11) h28 fun mp34 =>
(aMSt h28 mp34 .i64 n20 (.int .i64 p1) fun h35 =>
(onSome p0 fun a36 =>
(aI .i64 (Addr.add a36 12) h35 fun n37 =>
(bsel (decide (p1 < 0)) False
(onSome p0 fun a38 =>
(aC (Addr.add a38 12) (.int .i64 (IntKind.wrap .i64 (n37 - (IntKind.wrap .i64 ((1 : Int) * 2 ^ (min (Int.toNat p1) 64)))))) h35 fun h39 =>
(Q n20 (0 : Int) h39)))))))))))))))) h19)) h17)) h13)))))) ∧
(∃ I4 : Int→Nat→AH→Prop,(∃ m5,I4 p1 m5 h2) ∧ ∀ x8 : Int,∀ m5 h7,I4 x8 m5 h7 →
(bsel (decide (x8 ≤ (10 : Int)))
(onSome p0 fun a9 =>
(inB x8 11
(aM (Addr.add a9 (Int.toNat x8 * 1)) h7 fun mp10 =>
(aMLn h7 mp10 fun n11 =>
(bsel (n11 == (0 : Int))
(∃ m6,m6 < m5 ∧ I4 (IntKind.wrap .i64 (x8 + (1 : Int))) m6 h7)
(R3 x8 h7))))))
(R3 x8 h7))))) ∧
(bsel (decide (p1 < (0 : Int)))
(Q (0 : Int) (1 : Int) h)
(bsel (decide (p1 > (10 : Int)))
(Q (0 : Int) (1 : Int) h)
(R1 h))))
def qba_A : qba_T := qba_G qax_A qay_A qaz_A
def qba_W (f : qba_T) : ArS [.c .p,.c (.i .i64)] EnR := fun p0 p1 K _Kp => f p0 p1 (fun r0 r1 => K (.tuple #[(.int .i64 r0),(.int .i64 r1)]))
abbrev qbb_T := Option Addr→Int→(Bool→AH→Prop)→AP
def qbb_A (p0 : Option Addr) (p1 : Int) (Q : Bool→AH→Prop) (h : AH) : Prop :=
(bsel (decide (p1 < (0 : Int)))
(Q false h)
(onSome p0 fun a1 =>
(aI .i64 a1 h fun n2 =>
(bsel (decide (p1 ≥ n2))
(Q false h)
(onSome p0 fun a3 =>
(aS (Addr.add a3 1) h fun s4 =>
(∃ I5 : Int→Nat→AH→Prop,(∃ m6,I5 (0 : Int) m6 h) ∧ ∀ x9 : Int,∀ m6 h8,I5 x9 m6 h8 →
(bsel (decide (x9 < (Int.ofNat s4.len)))
(onSome s4.a fun a10 =>
(inB x9 s4.len
(aI .i64 (Addr.add a10 (Int.toNat x9 * 2)) h8 fun n11 =>
(aI .i64 (Addr.add (Addr.add a10 (Int.toNat x9 * 2)) 1) h8 fun n12 =>
(bsel (decide (p1 ≥ n11))
(bsel (decide (p1 < n12))
(Q false h8)
(∃ m7,m7 < m6 ∧ I5 (IntKind.wrap .i64 (x9 + (1 : Int))) m7 h8))
(∃ m7,m7 < m6 ∧ I5 (IntKind.wrap .i64 (x9 + (1 : Int))) m7 h8))))))
(Q true h8)))))))))
def qbb_W (f : qbb_T) : ArS [.c .p,.c (.i .i64)] EnR := fun p0 p1 K _Kp => f p0 p1 (fun r0 => K (.bool r0))
abbrev qbc_T := Option Addr→Int→(Int→AH→Prop)→AP
def qbc_G (f_qbb : qbb_T) (p0 : Option Addr) (p1 : Int) (Q : Int→AH→Prop) (h : AH) : Prop :=
(f_qbb p0 p1 (fun b1 h2 =>
(bsel (!b1)
(Q (2 : Int) h2)
(onSome p0 fun a3 =>
(aM (Addr.add a3 2) h2 fun mp4 =>
(aMDl h2 mp4 .i64 p1 fun h5 =>
(Q (0 : Int) h5)))))) h)
def qbc_A : qbc_T := qbc_G qbb_A
def qbc_W (f : qbc_T) : ArS [.c .p,.c (.i .i64)] EnR := fun p0 p1 K _Kp => f p0 p1 (fun r0 => K (.int .i64 r0))
abbrev qbd_T := Option Addr→Int→(Int→AH→Prop)→AP
def qbd_G (f_qap : qap_T) (p0 : Option Addr) (p1 : Int) (Q : Int→AH→Prop) (h : AH) : Prop :=
(onSome p0 fun a1 =>
(aM (Addr.add a1 11) h fun mp2 =>
(aLk h mp2 .i64 p1 fun o3 =>
(∃ n4 : Int,((o3.getD (.int .i64 (0 : Int))) : Value) = (.int .i64 n4) ∧
(bsel (!o3.isSome)
(Q (5 : Int) h)
(onSome p0 fun a5 =>
(aM (Addr.add a5 11) h fun mp6 =>
(aMDl h mp6 .i64 p1 fun h7 =>
(onSome p0 fun a8 =>
(aI .i64 (Addr.add a8 12) h7 fun n9 =>
(bsel (decide (n4 < 0)) False
(onSome p0 fun a10 =>
(aC (Addr.add a10 12) (.int .i64 (IntKind.wrap .i64 (n9 + (IntKind.wrap .i64 ((1 : Int) * 2 ^ (min (Int.toNat n4) 64)))))) h7 fun h11 =>
(f_qap p0 p1 n4 (fun h12 =>
(Q (0 : Int) h12)) h11))))))))))))))
def qbd_A : qbd_T := qbd_G qap_A
def qbd_W (f : qbd_T) : ArS [.c .p,.c (.i .i64)] EnR := fun p0 p1 K _Kp => f p0 p1 (fun r0 => K (.int .i64 r0))
abbrev qbe_T := Option Addr→Int→Int→(Int→AH→Prop)→AP
def qbe_G (f_qau : qau_T) (p0 : Option Addr) (p1 : Int) (p2 : Int) (Q : Int→AH→Prop) (h : AH) : Prop :=
(f_qau p0 p1 (fun pt1 b2 h3 =>
(bsel (!b2)
(Q (5 : Int) h3)
(bsel (decide (p2 < (0 : Int)))
(Q (1 : Int) h3)
(onSome pt1 fun a4 =>
(aI .i64 (Addr.add a4 2) h3 fun n5 =>
(bsel (decide (p2 > n5))
(Q (1 : Int) h3)
(onSome pt1 fun a6 =>
(aI .i64 (Addr.add a6 2) h3 fun n7 =>
(onSome pt1 fun a8 =>
(aC (Addr.add a8 2) (.int .i64 (IntKind.wrap .i64 (n7 - p2))) h3 fun h9 =>
(Q (0 : Int) h9))))))))))) h)
def qbe_A : qbe_T := qbe_G qau_A
def qbe_W (f : qbe_T) : ArS [.c .p,.c (.i .i64),.c (.i .i64)] EnR := fun p0 p1 p2 K _Kp => f p0 p1 p2 (fun r0 => K (.int .i64 r0))
abbrev qbf_T := Option Addr→Option Addr→Option Addr→Int→(Int→Int→AH→Prop)→AP
def qbf_G (f_qaw : qaw_T) (f_qba : qba_T) (f_qbc : qbc_T) (f_qbd : qbd_T) (f_qbe : qbe_T) (p0 : Option Addr) (p1 : Option Addr) (p2 : Option Addr) (p3 : Int) (Q : Int→Int→AH→Prop) (h : AH) : Prop :=
(f_qaw p2 p3 (1 : Int) (fun n1 h2 =>
(bsel (n1 != (0 : Int))
(Q (0 : Int) n1 h2)
(f_qba p1 (0 : Int) (fun n3 n4 h5 =>
(∃ R6 : Int→AH→Prop,(∀ x11 : Int,∀ h12,R6 x11 h12 →
(f_qbe p2 p3 (1 : Int) (fun _ h14 =>
(Q (0 : Int) x11 h14)) h12)) ∧
(bsel (n4 == (0 : Int))
(f_qbc p0 n3 (fun n7 h8 =>
(bsel (n7 == (0 : Int))
(Q n3 (0 : Int) h8)
(f_qbd p1 n3 (fun _ h10 =>
(R6 n7 h10)) h8))) h5)
(R6 n4 h5)))) h2))) h)
def qbf_A : qbf_T := qbf_G qaw_A qba_A qbc_A qbd_A qbe_A
def qbf_W (f : qbf_T) : ArS [.agg [.p,.p,.p,(.i .i64)]] EnR := fun p0 p1 p2 p3 K _Kp => f p0 p1 p2 p3 (fun r0 r1 => K (.tuple #[(.int .i64 r0),(.int .i64 r1)]))
abbrev qbg_T := Option Addr→(Int→AH→Prop)→AP
def qbg_A (p0 : Option Addr) (Q : Int→AH→Prop) (h : AH) : Prop :=
(onSome p0 fun a1 =>
(aI .i64 a1 h fun n2 =>
(Q n2 h)))
def qbg_W (f : qbg_T) : ArS [.c .p] EnR := fun p0 K _Kp => f p0 (fun r0 => K (.int .i64 r0))
abbrev qbh_T := Option Addr→Option Addr→Option Addr→Int→Int→(AH→Prop)→AP
def qbh_G (f_qbd : qbd_T) (f_qbe : qbe_T) (_p0 : Option Addr) (p1 : Option Addr) (p2 : Option Addr) (p3 : Int) (p4 : Int) (Q : AH→Prop) (h : AH) : Prop :=
(f_qbd p1 p4 (fun _ h2 =>
(f_qbe p2 p3 (1 : Int) (fun _ h4 =>
(Q h4)) h2)) h)
def qbh_A : qbh_T := qbh_G qbd_A qbe_A
def qbh_W (f : qbh_T) : ArS [.agg [.p,.p,.p,(.i .i64)],.c (.i .i64)] EnR := fun p0 p1 p2 p3 p4 K _Kp => f p0 p1 p2 p3 p4 (K (.tuple #[]))
abbrev qbi_T := Option Addr→(Option Addr→Option Addr→Option Addr→Option Addr→Option Addr→Option Addr→Option Addr→Option Addr→AH→Prop)→AP
def qbi_A (p0 : Option Addr) (Q : Option Addr→Option Addr→Option Addr→Option Addr→Option Addr→Option Addr→Option Addr→Option Addr→AH→Prop) (h : AH) : Prop :=
(onSome p0 fun a1 =>
(onSome p0 fun a2 =>
(onSome p0 fun a3 =>
(onSome p0 fun a4 =>
(onSome p0 fun a5 =>
(onSome p0 fun a6 =>
(onSome p0 fun a7 =>
(onSome p0 fun a8 =>
(Q ((some a1) : Option Addr) ((some (Addr.add a2 1)) : Option Addr) ((some (Addr.add a3 2)) : Option Addr) ((some (Addr.add a4 3)) : Option Addr) ((some (Addr.add a5 4)) : Option Addr) ((some (Addr.add a6 5)) : Option Addr) ((some (Addr.add a7 6)) : Option Addr) ((some (Addr.add a8 7)) : Option Addr) h)))))))))
def qbi_W (f : qbi_T) : ArS [.c .p] EnR := fun p0 K _Kp => f p0 (fun r0 r1 r2 r3 r4 r5 r6 r7 => K (.agg #[(.pointer r0),(.pointer r1),(.pointer r2),(.pointer r3),(.pointer r4),(.pointer r5),(.pointer r6),(.pointer r7)]))
abbrev qbj_T := (Int→Int→Int→Int→Int→Int→Int→Int→AH→Prop)→AP
def qbj_A (Q : Int→Int→Int→Int→Int→Int→Int→Int→AH→Prop) (h : AH) : Prop :=
(Q (0 : Int) (1 : Int) (2 : Int) (5 : Int) (6 : Int) (7 : Int) (8 : Int) (63 : Int) h)
def qbj_W (f : qbj_T) : ArS [] EnR := fun  K _Kp => f  (fun r0 r1 r2 r3 r4 r5 r6 r7 => K (.agg #[(.int .i64 r0),(.int .i64 r1),(.int .i64 r2),(.int .i64 r3),(.int .i64 r4),(.int .i64 r5),(.int .i64 r6),(.int .i64 r7)]))
abbrev qbk_T := Bool→Bool→Bool→Bool→Bool→Bool→Bool→Bool→Int→(Int→Int→AH→Prop)→AP
def qbk_G (f_qbi : qbi_T) (f_qbj : qbj_T) (p0 : Bool) (p1 : Bool) (p2 : Bool) (p3 : Bool) (p4 : Bool) (p5 : Bool) (p6 : Bool) (p7 : Bool) (p8 : Int) (Q : Int→Int→AH→Prop) (h : AH) : Prop :=
(newA h (.cells #[(.bool p0),(.bool p1),(.bool p2),(.bool p3),(.bool p4),(.bool p5),(.bool p6),(.bool p7),(.int .i64 p8)] 68) fun b1 h2 =>
(∃ R3 : AH→Prop,(∀ h6,R3 h6 →
(aI .i64 (Addr.add (Addr.mk b1 0 none) 8) h6 fun n7 =>
(f_qbi (some (Addr.mk b1 0 none)) (fun pt8 pt9 pt10 pt11 pt12 pt13 pt14 pt15 h16 =>
(∃ I17 : Int→Int→Nat→AH→Prop,(∃ m18,I17 (IntKind.wrap .u64 ((IntKind.wrap .u64 n7) * 2 ^ (12 : Nat))) (0 : Int) m18 h16) ∧ ∀ x21 : Int,∀ x22 : Int,∀ m18 h20,I17 x21 x22 m18 h20 →
(bsel (decide (x22 < (8 : Int)))
(∃ R23 : Int→AH→Prop,(∀ x37 : Int,∀ h38,R23 x37 h38 →
(∃ m19,m19 < m18 ∧ I17 x37 (IntKind.wrap .i64 (x22 + (1 : Int))) m19 h38)) ∧
(inB x22 8
(geP [(.pointer pt8),(.pointer pt9),(.pointer pt10),(.pointer pt11),(.pointer pt12),(.pointer pt13),(.pointer pt14),(.pointer pt15)] (Int.toNat x22) fun n24 =>
(onSome n24 fun a25 =>
(aB a25 h20 fun b26 =>
(bsel b26
(f_qbj (fun n27 n28 n29 n30 n31 n32 n33 n34 h35 =>
(inB x22 8
(geI .i64 [(.int .i64 n27),(.int .i64 n28),(.int .i64 n29),(.int .i64 n30),(.int .i64 n31),(.int .i64 n32),(.int .i64 n33),(.int .i64 n34)] (Int.toNat x22) fun n36 =>
(bsel (decide (n36 < 0)) False
(R23 (bits .or .u64 x21 (IntKind.wrap .u64 ((1 : Int) * 2 ^ (min (Int.toNat n36) 64)))) h35))))) h20)
(R23 x21 h20)))))))
(Q x21 (0 : Int) h20)))) h6))) ∧
(aI .i64 (Addr.add (Addr.mk b1 0 none) 8) h2 fun n4 =>
(bsel (decide (n4 < (0 : Int)))
(Q (0 : Int) (1 : Int) h2)
(aI .i64 (Addr.add (Addr.mk b1 0 none) 8) h2 fun n5 =>
(bsel (decide (n5 ≥ (1048576 : Int)))
(Q (0 : Int) (1 : Int) h2)
(R3 h2)))))))
def qbk_A : qbk_T := qbk_G qbi_A qbj_A
def qbk_W (f : qbk_T) : ArS [.agg [.b,.b,.b,.b,.b,.b,.b,.b,(.i .i64)]] EnR := fun p0 p1 p2 p3 p4 p5 p6 p7 p8 K _Kp => f p0 p1 p2 p3 p4 p5 p6 p7 p8 (fun r0 r1 => K (.tuple #[(.int .u64 r0),(.int .i64 r1)]))
abbrev qbl_T := Int→Int→(Int→AH→Prop)→AP
def qbl_A (p0 : Int) (p1 : Int) (Q : Int→AH→Prop) (h : AH) : Prop :=
(Q (IntKind.wrap .u64 ((IntKind.wrap .u64 ((IntKind.wrap .u64 p0) * (4096 : Int))) + (IntKind.wrap .u64 (IntKind.wrap .i64 ((8 : Int) * p1))))) h)
def qbl_W (f : qbl_T) : ArS [.c (.i .i64),.c (.i .i64)] EnR := fun p0 p1 K _Kp => f p0 p1 (fun r0 => K (.int .u64 r0))
abbrev qbm_T := Option Addr→Int→Int→(Int→AH→Prop)→AP
def qbm_G (f_qbb : qbb_T) (p0 : Option Addr) (p1 : Int) (p2 : Int) (Q : Int→AH→Prop) (h : AH) : Prop :=
(∃ R1 : Bool→AH→Prop,(∀ b2 : Bool,∀ h3,R1 b2 h3 →
(bsel b2
(bsel (decide ((IntKind.wrap .u64 ((IntKind.wrap .u64 (p1 + (IntKind.wrap .u64 p2))) - (1 : Int))) < p1))
(Q (2 : Int) h3)
(onSome p0 fun a4 =>
(aI .i64 a4 h3 fun n5 =>
(bsel (decide ((IntKind.wrap .u64 (Int.tdiv (IntKind.wrap .u64 ((IntKind.wrap .u64 (p1 + (IntKind.wrap .u64 p2))) - (1 : Int))) (4096 : Int))) ≥ (IntKind.wrap .u64 n5)))
(Q (2 : Int) h3)
(f_qbb p0 (IntKind.wrap .i64 (IntKind.wrap .u64 (Int.tdiv p1 (4096 : Int)))) (fun b6 h7 =>
(bsel (!b6)
(Q (2 : Int) h7)
(f_qbb p0 (IntKind.wrap .i64 (IntKind.wrap .u64 (Int.tdiv (IntKind.wrap .u64 ((IntKind.wrap .u64 (p1 + (IntKind.wrap .u64 p2))) - (1 : Int))) (4096 : Int)))) (fun b8 h9 =>
(bsel (!b8)
(Q (2 : Int) h9)
(Q (0 : Int) h9))) h7))) h3)))))
(Q (1 : Int) h3))) ∧
(bsel (p2 == (1 : Int))
(R1 (p2 == (1 : Int)) h)
(bsel (p2 == (2 : Int))
(R1 (p2 == (2 : Int)) h)
(bsel (p2 == (4 : Int))
(R1 (p2 == (4 : Int)) h)
(R1 (p2 == (8 : Int)) h)))))
def qbm_A : qbm_T := qbm_G qbb_A
def qbm_W (f : qbm_T) : ArS [.c .p,.c (.i .u64),.c (.i .i64)] EnR := fun p0 p1 p2 K _Kp => f p0 p1 p2 (fun r0 => K (.int .i64 r0))
abbrev qbn_T := Option Addr→Int→(Option Addr→AH→Prop)→AP
def qbn_A (p0 : Option Addr) (p1 : Int) (Q : Option Addr→AH→Prop) (h : AH) : Prop :=
(onSome p0 fun a1 =>
(aM (Addr.add a1 2) h fun mp2 =>
(aLk h mp2 .i64 p1 fun o3 =>
(∃ pt4 : Option Addr,((o3.getD (.pointer none)) : Value) = (.pointer pt4) ∧
(∃ R5 : Option Addr→AH→Prop,(∀ pt11 : Option Addr,∀ h12,R5 pt11 h12 →
(Q pt11 h12)) ∧
(bsel pt4.isNone
(newA h (.cells (Array.replicate 4096 (.int .u8 (0 : Int))) 233) fun b6 h7 =>
(onSome p0 fun a8 =>
(aM (Addr.add a8 2) h7 fun mp9 =>
(aMSt h7 mp9 .i64 p1 (.pointer (some (Addr.mk b6 0 none))) fun h10 =>
(R5 (some (Addr.mk b6 0 none)) h10)))))
(R5 pt4 h)))))))
def qbn_W (f : qbn_T) : ArS [.c .p,.c (.i .i64)] EnR := fun p0 p1 K _Kp => f p0 p1 (fun r0 => K (.pointer r0))
abbrev qbo_T := Option Addr→Int→Int→Int→(Int→AH→Prop)→AP
def qbo_G (f_qbm : qbm_T) (f_qbn : qbn_T) (p0 : Option Addr) (p1 : Int) (p2 : Int) (p3 : Int) (Q : Int→AH→Prop) (h : AH) : Prop :=
(f_qbm p0 p1 p2 (fun n1 h2 =>
(bsel (n1 != (0 : Int))
(Q n1 h2)
(∃ I3 : Int→Nat→AH→Prop,(∃ m4,I3 (0 : Int) m4 h2) ∧ ∀ x7 : Int,∀ m4 h6,I3 x7 m4 h6 →
(bsel (decide (x7 < p2))
(bsel (decide ((IntKind.wrap .i64 ((8 : Int) * x7)) < 0)) False
(f_qbn p0 (IntKind.wrap .i64 (IntKind.wrap .u64 (Int.tdiv (IntKind.wrap .u64 (p1 + (IntKind.wrap .u64 x7))) (4096 : Int)))) (fun pt8 h9 =>
(onSome pt8 fun a10 =>
(inB (Int.tmod (IntKind.wrap .u64 (p1 + (IntKind.wrap .u64 x7))) (4096 : Int)) 4096
(aC (Addr.add a10 (Int.toNat (Int.tmod (IntKind.wrap .u64 (p1 + (IntKind.wrap .u64 x7))) (4096 : Int)) * 1)) (.int .u8 (IntKind.wrap .u8 (Int.fdiv p3 (2 ^ (min (Int.toNat (IntKind.wrap .i64 ((8 : Int) * x7))) 64))))) h9 fun h11 =>
(∃ m5,m5 < m4 ∧ I3 (IntKind.wrap .i64 (x7 + (1 : Int))) m5 h11))))) h6))
(Q (0 : Int) h6))))) h)
def qbo_A : qbo_T := qbo_G qbm_A qbn_A
def qbo_W (f : qbo_T) : ArS [.c .p,.c (.i .u64),.c (.i .i64),.c (.i .u64)] EnR := fun p0 p1 p2 p3 K _Kp => f p0 p1 p2 p3 (fun r0 => K (.int .i64 r0))
abbrev qbp_T := Option Addr→Option Addr→Option Addr→Int→Int→Int→Bool→Bool→Bool→Bool→Bool→Bool→Bool→Bool→Int→(AH→Prop)→AP
def qbp_G (f_qbk : qbk_T) (f_qbl : qbl_T) (f_qbo : qbo_T) (p0 : Option Addr) (_p1 : Option Addr) (_p2 : Option Addr) (_p3 : Int) (p4 : Int) (p5 : Int) (p6 : Bool) (p7 : Bool) (p8 : Bool) (p9 : Bool) (p10 : Bool) (p11 : Bool) (p12 : Bool) (p13 : Bool) (p14 : Int) (Q : AH→Prop) (h : AH) : Prop :=
(f_qbk p6 p7 p8 p9 p10 p11 p12 p13 p14 (fun n1 _ h3 =>
(f_qbl p4 p5 (fun n4 h5 =>
(f_qbo p0 n4 (8 : Int) n1 (fun _ h7 =>
(Q h7)) h5)) h3)) h)
def qbp_A : qbp_T := qbp_G qbk_A qbl_A qbo_A
def qbp_W (f : qbp_T) : ArS [.agg [.p,.p,.p,(.i .i64)],.c (.i .i64),.c (.i .i64),.agg [.b,.b,.b,.b,.b,.b,.b,.b,(.i .i64)]] EnR := fun p0 p1 p2 p3 p4 p5 p6 p7 p8 p9 p10 p11 p12 p13 p14 K _Kp => f p0 p1 p2 p3 p4 p5 p6 p7 p8 p9 p10 p11 p12 p13 p14 (K (.tuple #[]))
abbrev qbq_T := Option Addr→Option Addr→Option Addr→Int→(Int→Int→AH→Prop)→AP
def qbq_G (f_qbf : qbf_T) (f_qbg : qbg_T) (f_qbh : qbh_T) (f_qbp : qbp_T) (p0 : Option Addr) (p1 : Option Addr) (p2 : Option Addr) (p3 : Int) (Q : Int→Int→AH→Prop) (h : AH) : Prop :=
(f_qbf p0 p1 p2 p3 (fun n1 n2 h3 =>
(bsel (n2 != (0 : Int))
(Q (0 : Int) n2 h3)
(newA h3 (.cells #[(.int .i64 n1)] 3) fun b4 h5 =>
(∃ I6 : Sl→Int→Nat→AH→Prop,(∃ m7,I6 (Sl.mk (some (Addr.mk b4 0 none)) 1 1) (0 : Int) m7 h5) ∧ ∀ s10 : Sl,∀ x11 : Int,∀ m7 h9,I6 s10 x11 m7 h9 →
(f_qbg p0 (fun n12 h13 =>
(bsel (decide (x11 < n12))
(f_qbf p0 p1 p2 p3 (fun n14 n15 h16 =>
(bsel (n15 != (0 : Int))
(∃ I17 : Int→Nat→AH→Prop,(∃ m18,I17 (0 : Int) m18 h16) ∧ ∀ x21 : Int,∀ m18 h20,I17 x21 m18 h20 →
(bsel (decide (x21 < (Int.ofNat s10.len)))
(onSome s10.a fun a22 =>
(inB x21 s10.len
(aI .i64 (Addr.add a22 (Int.toNat x21 * 1)) h20 fun n23 =>
(f_qbh p0 p1 p2 p3 n23 (fun h24 =>
(∃ m19,m19 < m18 ∧ I17 (IntKind.wrap .i64 (x21 + (1 : Int))) m19 h24)) h20))))
(Q (0 : Int) n15 h20)))
(newA h16 (.cells #[(.int .i64 n14)] 3) fun b25 h26 =>
(apA 1 8 #[(.int .i64 (0 : Int))] 3 s10 (Sl.mk (some (Addr.mk b25 0 none)) 1 1) h26 fun s27 h28 =>
(f_qbp p0 p1 p2 p3 n1 (Int.fdiv x11 (2 ^ (18 : Nat))) true true false false false false false false n14 (fun h29 =>
(∃ I30 : Int→Nat→AH→Prop,(∃ m31,I30 (0 : Int) m31 h29) ∧ ∀ x34 : Int,∀ m31 h33,I30 x34 m31 h33 →
(bsel (decide (x34 < (512 : Int)))
(f_qbg p0 (fun n35 h36 =>
(bsel (decide ((IntKind.wrap .i64 (x11 + (IntKind.wrap .i64 (x34 * 2 ^ (9 : Nat))))) < n35))
(f_qbp p0 p1 p2 p3 n14 x34 true true false false false true true true (IntKind.wrap .i64 (x11 + (IntKind.wrap .i64 (x34 * 2 ^ (9 : Nat))))) (fun h37 =>
(∃ m32,m32 < m31 ∧ I30 (IntKind.wrap .i64 (x34 + (1 : Int))) m32 h37)) h36)
(∃ m8,m8 < m7 ∧ I6 s27 (IntKind.wrap .i64 (x11 + (262144 : Int))) m8 h36))) h33)
(∃ m8,m8 < m7 ∧ I6 s27 (IntKind.wrap .i64 (x11 + (262144 : Int))) m8 h33)))) h28))))) h13)
(Q n1 (0 : Int) h13))) h9))))) h)
def qbq_A : qbq_T := qbq_G qbf_A qbg_A qbh_A qbp_A
def qbq_W (f : qbq_T) : ArS [.agg [.p,.p,.p,(.i .i64)]] EnR := fun p0 p1 p2 p3 K _Kp => f p0 p1 p2 p3 (fun r0 r1 => K (.tuple #[(.int .i64 r0),(.int .i64 r1)]))
abbrev qbr_T := Int→Int→Int→Int→Sl→(Option Addr→Int→AH→Prop)→AP
def qbr_G (f_qal : qal_T) (f_qan : qan_T) (f_qao : qao_T) (f_qaq : qaq_T) (f_qar : qar_T) (f_qas : qas_T) (f_qat : qat_T) (f_qbq : qbq_T) (p0 : Int) (p1 : Int) (p2 : Int) (p3 : Int) (p4 : Sl) (Q : Option Addr→Int→AH→Prop) (h : AH) : Prop :=
(f_qal p4 p0 p1 p2 (fun s1 n2 h3 =>
(bsel (n2 != (0 : Int))
(Q none n2 h3)
(f_qan p3 (fun pt4 n5 h6 =>
(bsel (n5 != (0 : Int))
(Q none n5 h6)
(newA h6 (.cells #[(.bool false),(.int .i64 (0 : Int)),(.int .i64 (0 : Int)),(.int .i64 (0 : Int)),(.bool false),(.bool false),(.bool false),(.bool false),(.bool false),(.bool false),(.int .i64 (0 : Int)),(.int .i64 (0 : Int)),(.int .i64 (0 : Int)),(.bool false),(.bool false),(.bool false),(.bool false),(.bool false),(.bool false),(.int .i64 (0 : Int)),(.int .i64 (0 : Int)),(.int .i64 (0 : Int)),(.bool false),(.bool false),(.bool false),(.bool false),(.bool false),(.bool false),(.int .i64 (0 : Int)),(.int .i64 (0 : Int)),(.int .i64 (0 : Int)),(.bool false),(.bool false),(.bool false),(.bool false),(.bool false),(.bool false),(.int .i64 (0 : Int)),(.int .i64 (0 : Int)),(.int .i64 (0 : Int)),(.bool false),(.bool false),(.bool false),(.bool false),(.bool false),(.bool false),(.int .i64 (0 : Int)),(.int .i64 (0 : Int)),(.int .i64 (0 : Int)),(.bool false),(.bool false),(.bool false),(.bool false),(.bool false),(.bool false),(.int .i64 (0 : Int)),(.int .i64 (0 : Int)),(.int .i64 (0 : Int)),(.bool false),(.bool false),(.bool false),(.bool false),(.bool false),(.bool false),(.int .i64 (0 : Int)),(.int .i64 (0 : Int)),(.int .i64 (0 : Int)),(.bool false),(.bool false),(.bool false),(.bool false),(.bool false),(.bool false),(.int .i64 (0 : Int)),(.int .i64 (0 : Int)),(.int .i64 (0 : Int)),(.bool false),(.bool false),(.bool false),(.bool false),(.bool false),(.bool false),(.int .i64 (0 : Int)),(.int .i64 (0 : Int)),(.int .i64 (0 : Int)),(.bool false),(.bool false),(.bool false),(.bool false),(.bool false),(.bool false),(.int .i64 (0 : Int)),(.int .i64 (0 : Int)),(.int .i64 (0 : Int)),(.bool false),(.bool false),(.bool false),(.bool false),(.bool false),(.bool false),(.int .i64 (0 : Int)),(.int .i64 (0 : Int)),(.int .i64 (0 : Int)),(.bool false),(.bool false),(.bool false),(.bool false),(.bool false),(.bool false),(.int .i64 (0 : Int)),(.int .i64 (0 : Int)),(.int .i64 (0 : Int)),(.bool false),(.bool false),(.bool false),(.bool false),(.bool false),(.bool false),(.int .i64 (0 : Int)),(.int .i64 (0 : Int)),(.int .i64 (0 : Int)),(.bool false),(.bool false),(.bool false),(.bool false),(.bool false),(.bool false),(.int .i64 (0 : Int)),(.int .i64 (0 : Int)),(.int .i64 (0 : Int)),(.bool false),(.bool false),(.bool false),(.bool false),(.bool false),(.bool false),(.int .i64 (0 : Int)),(.int .i64 (0 : Int)),(.int .i64 (0 : Int)),(.bool false),(.bool false),(.bool false),(.bool false),(.bool false)] 127) fun b7 h8 =>
(newA h8 (.map #[] 0) fun b9 h10 =>
(newA h10 (.cells #[(.pointer none),(.pointer none),(.pointer none),(.pointer (some (Addr.mk b7 0 none))),(.pointer pt4),(.int .i64 (0 : Int)),(.map (some b9))] 79) fun b11 h12 =>
(f_qao p0 Sl.nil (fun pt13 _ h15 =>
(aC (Addr.mk b11 0 none) (.pointer pt13) h15 fun h16 =>
(f_qaq s1 (fun pt17 n18 h19 =>
(aC (Addr.add (Addr.mk b11 0 none) 1) (.pointer pt17) h19 fun h20 =>
(bsel (n18 != (0 : Int))
(Q none n18 h20)
(aP (Addr.add (Addr.mk b11 0 none) 1) h20 fun pt21 =>
(f_qar pt21 (fun n22 h23 =>
(f_qas n22 (fun pt24 _ h26 =>
(aC (Addr.add (Addr.mk b11 0 none) 2) (.pointer pt24) h26 fun h27 =>
(f_qat (some (Addr.mk b11 0 none)) (0 : Int) (fun pt28 pt29 pt30 n31 h32 =>
(f_qbq pt28 pt29 pt30 n31 (fun n33 n34 h35 =>
(aC (Addr.add (Addr.mk b11 0 none) 5) (.int .i64 n33) h35 fun h36 =>
(bsel (n34 != (0 : Int))
(Q none n34 h36)
(Q (some (Addr.mk b11 0 none)) (0 : Int) h36)))) h32)) h27))) h23)) h20))))) h16))) h12)))))) h3))) h)
def qbr_A : qbr_T := qbr_G qal_A qan_A qao_A qaq_A qar_A qas_A qat_A qbq_A
def qbr_W (f : qbr_T) : ArS [.agg [(.i .i64),(.i .i64),(.i .i64),(.i .i64),.s]] EnR := fun p0 p1 p2 p3 p4 K _Kp => f p0 p1 p2 p3 p4 (fun r0 r1 => K (.tuple #[(.pointer r0),(.int .i64 r1)]))
abbrev qbs_T := Int→Int→(Option Addr→Sl→Sl→Int→Bool→AH→Prop)→AP
def qbs_G (f_qab : qab_T) (f_qbr : qbr_T) (p0 : Int) (p1 : Int) (Q : Option Addr→Sl→Sl→Int→Bool→AH→Prop) (h : AH) : Prop :=
(f_qab p0 p1 (fun n1 n2 n3 n4 s5 h6 =>
(f_qbr n1 n2 n3 n4 s5 (fun pt7 n8 h9 =>
(newA h9 (.cells #[(.int .i64 (0 : Int)),(.int .i64 (-1 : Int)),(.int .i64 (IntKind.wrap .i64 (p0 - (1 : Int)))),(.int .i64 (2 : Int))] 58) fun b10 h11 =>
(bsel (n8 == (0 : Int))
(Q pt7 (Sl.mk (none : Option Addr) (0 : Nat) (0 : Nat)) (Sl.mk ((some (Addr.mk b10 0 none)) : Option Addr) (1 : Nat) (1 : Nat)) (0 : Int) (!pt7.isNone) h11)
(Q pt7 (Sl.mk (none : Option Addr) (0 : Nat) (0 : Nat)) (Sl.mk ((some (Addr.mk b10 0 none)) : Option Addr) (1 : Nat) (1 : Nat)) (0 : Int) false h11)))) h6)) h)
def qbs_A : qbs_T := qbs_G qab_A qbr_A
def qbs_W (f : qbs_T) : ArS [.c (.i .i64),.c (.i .i64)] EnR := fun p0 p1 K _Kp => f p0 p1 (fun r0 r1 r2 r3 r4 => K (.tuple #[(.pointer r0),(.agg #[(.slice r1.a r1.len r1.cap),(.slice r2.a r2.len r2.cap),(.int .i64 r3)]),(.bool r4)]))
abbrev qbt_T := Option Addr→Option Addr→Option Addr→Int→Int→(Int→Int→AH→Prop)→AP
def qbt_G (f_qbf : qbf_T) (f_qbp : qbp_T) (p0 : Option Addr) (p1 : Option Addr) (p2 : Option Addr) (p3 : Int) (p4 : Int) (Q : Int→Int→AH→Prop) (h : AH) : Prop :=
(f_qbf p0 p1 p2 p3 (fun n1 n2 h3 =>
(bsel (n2 != (0 : Int))
(Q (0 : Int) n2 h3)
(f_qbp p0 p1 p2 p3 n1 (256 : Int) true true false false false false false false p4 (fun h4 =>
(Q n1 (0 : Int) h4)) h3))) h)
def qbt_A : qbt_T := qbt_G qbf_A qbp_A
def qbt_W (f : qbt_T) : ArS [.agg [.p,.p,.p,(.i .i64)],.c (.i .i64)] EnR := fun p0 p1 p2 p3 p4 K _Kp => f p0 p1 p2 p3 p4 (fun r0 r1 => K (.tuple #[(.int .i64 r0),(.int .i64 r1)]))
abbrev qbu_T := Option Addr→Int→Int→(Int→AH→Prop)→AP
def qbu_G (f_qat : qat_T) (f_qbt : qbt_T) (p0 : Option Addr) (p1 : Int) (p2 : Int) (Q : Int→AH→Prop) (h : AH) : Prop :=
(bsel (decide (p1 < (0 : Int)))
(Q (1 : Int) h)
(onSome p0 fun a1 =>
(aM (Addr.add a1 6) h fun mp2 =>
(aLk h mp2 .i64 p1 fun o3 =>
(∃ pt4 : Option Addr,((o3.getD (.pointer none)) : Value) = (.pointer pt4) ∧
(bsel (!pt4.isNone)
(Q (6 : Int) h)
(onSome p0 fun a5 =>
(aI .i64 (Addr.add a5 5) h fun n6 =>
(f_qat p0 p2 (fun pt7 pt8 pt9 n10 h11 =>
((aI .i64 (Addr.add a5 5) h11 fun n12 =>
(((.int .i64 n12) : Value) = (.int .i64 n6))) ∧
(f_qbt pt7 pt8 pt9 n10 n6 (fun n13 n14 h15 =>
(bsel (n14 != (0 : Int))
(Q n14 h15)
(onSome p0 fun a16 =>
(aM (Addr.add a16 6) h15 fun mp17 =>
(newA h15 (.map #[] 0) fun b18 h19 =>
(newA h19 (.cells #[(.int .i64 p2),(.int .i64 n13),(.slice none 0 0),(.map (some b18))] 100) fun b20 h21 =>
(aMSt h21 mp17 .i64 p1 (.pointer (some (Addr.mk b20 0 none))) fun h22 =>
(Q (0 : Int) h22)))))))) h11))) h)))))))))
def qbu_A : qbu_T := qbu_G qat_A qbt_A
def qbu_W (f : qbu_T) : ArS [.c .p,.c (.i .i64),.c (.i .i64)] EnR := fun p0 p1 p2 K _Kp => f p0 p1 p2 (fun r0 => K (.int .i64 r0))
abbrev qbv_T := Int→Int→(Bool→AH→Prop)→AP
def qbv_A (p0 : Int) (p1 : Int) (Q : Bool→AH→Prop) (h : AH) : Prop :=
(bsel (decide (p0 ≥ (0 : Int)))
(bsel (decide (p1 > p0))
(bsel (decide (p1 ≤ (34359738368 : Int)))
(Q (decide ((IntKind.wrap .i64 (p1 - p0)) ≤ (65536 : Int))) h)
(Q false h))
(Q false h))
(Q false h))
def qbv_W (f : qbv_T) : ArS [.agg [(.i .i64),(.i .i64)]] EnR := fun p0 p1 K _Kp => f p0 p1 (fun r0 => K (.bool r0))
abbrev qbw_T := Int→Int→Bool→Bool→Bool→Int→Int→Int→Bool→Bool→Bool→Int→(Bool→AH→Prop)→AP
def qbw_A (_p0 : Int) (p1 : Int) (p2 : Bool) (p3 : Bool) (p4 : Bool) (p5 : Int) (p6 : Int) (_p7 : Int) (p8 : Bool) (p9 : Bool) (p10 : Bool) (p11 : Int) (Q : Bool→AH→Prop) (h : AH) : Prop :=
(bsel (p1 == p6)
(bsel ((p2 == p8) && ((p3 == p9) && ((p4 == p10) && true)))
(Q (p5 == p11) h)
(Q false h))
(Q false h))
def qbw_W (f : qbw_T) : ArS [.agg [(.i .i64),(.i .i64),.b,.b,.b,(.i .i64)],.agg [(.i .i64),(.i .i64),.b,.b,.b,(.i .i64)]] EnR := fun p0 p1 p2 p3 p4 p5 p6 p7 p8 p9 p10 p11 K _Kp => f p0 p1 p2 p3 p4 p5 p6 p7 p8 p9 p10 p11 (fun r0 => K (.bool r0))
abbrev qbx_T := Sl→(Bool→AH→Prop)→AP
def qbx_G (f_qbw : qbw_T) (p0 : Sl) (Q : Bool→AH→Prop) (h : AH) : Prop :=
(bsel (decide ((Int.ofNat p0.len) > (64 : Int)))
(Q false h)
(∃ I1 : Int→Nat→AH→Prop,(∃ m2,I1 (0 : Int) m2 h) ∧ ∀ x5 : Int,∀ m2 h4,I1 x5 m2 h4 →
(bsel (decide (x5 < (Int.ofNat p0.len)))
(onSome p0.a fun a6 =>
(inB x5 p0.len
(aI .i64 (Addr.add a6 (Int.toNat x5 * 6)) h4 fun n7 =>
(aI .i64 (Addr.add (Addr.add a6 (Int.toNat x5 * 6)) 1) h4 fun n8 =>
(aB (Addr.add (Addr.add a6 (Int.toNat x5 * 6)) 2) h4 fun b9 =>
(aB (Addr.add (Addr.add a6 (Int.toNat x5 * 6)) 3) h4 fun b10 =>
(aB (Addr.add (Addr.add a6 (Int.toNat x5 * 6)) 4) h4 fun b11 =>
(aI .i64 (Addr.add (Addr.add a6 (Int.toNat x5 * 6)) 5) h4 fun n12 =>
(bsel (decide (n7 < (0 : Int)))
(Q false h4)
(bsel (decide (n8 ≤ n7))
(Q false h4)
(bsel (decide (n8 > (34359738368 : Int)))
(Q false h4)
(bsel (decide (x5 > (0 : Int)))
(onSome p0.a fun a13 =>
(inB (IntKind.wrap .i64 (x5 - (1 : Int))) p0.len
(aI .i64 (Addr.add (Addr.add a13 (Int.toNat (IntKind.wrap .i64 (x5 - (1 : Int))) * 6)) 1) h4 fun n14 =>
(bsel (decide (n14 > n7))
(Q false h4)
(onSome p0.a fun a15 =>
(inB (IntKind.wrap .i64 (x5 - (1 : Int))) p0.len
(aI .i64 (Addr.add a15 (Int.toNat (IntKind.wrap .i64 (x5 - (1 : Int))) * 6)) h4 fun n16 =>
(aI .i64 (Addr.add (Addr.add a15 (Int.toNat (IntKind.wrap .i64 (x5 - (1 : Int))) * 6)) 1) h4 fun n17 =>
(aB (Addr.add (Addr.add a15 (Int.toNat (IntKind.wrap .i64 (x5 - (1 : Int))) * 6)) 2) h4 fun b18 =>
(aB (Addr.add (Addr.add a15 (Int.toNat (IntKind.wrap .i64 (x5 - (1 : Int))) * 6)) 3) h4 fun b19 =>
(aB (Addr.add (Addr.add a15 (Int.toNat (IntKind.wrap .i64 (x5 - (1 : Int))) * 6)) 4) h4 fun b20 =>
(aI .i64 (Addr.add (Addr.add a15 (Int.toNat (IntKind.wrap .i64 (x5 - (1 : Int))) * 6)) 5) h4 fun n21 =>
(f_qbw n16 n17 b18 b19 b20 n21 n7 n8 b9 b10 b11 n12 (fun b22 h23 =>
(bsel b22
(Q false h23)
(∃ m3,m3 < m2 ∧ I1 (IntKind.wrap .i64 (x5 + (1 : Int))) m3 h23))) h4)))))))))))))
(∃ m3,m3 < m2 ∧ I1 (IntKind.wrap .i64 (x5 + (1 : Int))) m3 h4)))))))))))))
(Q true h4))))
def qbx_A : qbx_T := qbx_G qbw_A
def qbx_W (f : qbx_T) : ArS [.c .s] EnR := fun p0 K _Kp => f p0 (fun r0 => K (.bool r0))
abbrev qby_T := Sl→(Sl→AH→Prop)→AP
def qby_A (p0 : Sl) (Q : Sl→AH→Prop) (h : AH) : Prop :=
(bsel (Option.isNone p0.a)
(Q Sl.nil h)
(newA h (.cells #[] 108) fun b1 h2 =>
(apA 6 32 #[(.int .i64 (0 : Int)),(.int .i64 (0 : Int)),(.bool false),(.bool false),(.bool false),(.int .i64 (0 : Int))] 108 (Sl.mk (some (Addr.mk b1 0 none)) 0 0) p0 h2 fun s3 h4 =>
(Q s3 h4))))
def qby_W (f : qby_T) : ArS [.c .s] EnR := fun p0 K _Kp => f p0 (fun r0 => K (.slice r0.a r0.len r0.cap))
abbrev qbz_T := Sl→Sl→(Bool→AH→Prop)→AP
def qbz_A : qbz_T := ovA
def qbz_W (f : qbz_T) : ArS [.c .s,.c .s] EnR := fun p0 p1 K _Kp => f p0 p1 (fun r0 => K (.bool r0))
abbrev qca_T := Sl→(AH→Prop)→AP
def qca_A (p0 : Sl) (Q : AH→Prop) (h : AH) : Prop :=
(∃ I1 : Int→Int→Nat→AH→Prop,(∃ m2,I1 (0 : Int) (IntKind.wrap .i64 ((Int.ofNat p0.len) - (1 : Int))) m2 h) ∧ ∀ x5 : Int,∀ x6 : Int,∀ m2 h4,I1 x5 x6 m2 h4 →
(bsel (decide (x5 < x6))
(onSome p0.a fun a7 =>
(inB x6 p0.len
(onSome p0.a fun a8 =>
(inB x5 p0.len
(aI .i64 (Addr.add a7 (Int.toNat x6 * 6)) h4 fun n9 =>
(aI .i64 (Addr.add (Addr.add a7 (Int.toNat x6 * 6)) 1) h4 fun n10 =>
(aB (Addr.add (Addr.add a7 (Int.toNat x6 * 6)) 2) h4 fun b11 =>
(aB (Addr.add (Addr.add a7 (Int.toNat x6 * 6)) 3) h4 fun b12 =>
(aB (Addr.add (Addr.add a7 (Int.toNat x6 * 6)) 4) h4 fun b13 =>
(aI .i64 (Addr.add (Addr.add a7 (Int.toNat x6 * 6)) 5) h4 fun n14 =>
(aI .i64 (Addr.add a8 (Int.toNat x5 * 6)) h4 fun n15 =>
(aI .i64 (Addr.add (Addr.add a8 (Int.toNat x5 * 6)) 1) h4 fun n16 =>
(aB (Addr.add (Addr.add a8 (Int.toNat x5 * 6)) 2) h4 fun b17 =>
(aB (Addr.add (Addr.add a8 (Int.toNat x5 * 6)) 3) h4 fun b18 =>
(aB (Addr.add (Addr.add a8 (Int.toNat x5 * 6)) 4) h4 fun b19 =>
(aI .i64 (Addr.add (Addr.add a8 (Int.toNat x5 * 6)) 5) h4 fun n20 =>
(onSome p0.a fun a21 =>
(inB x5 p0.len
(aC (Addr.add a21 (Int.toNat x5 * 6)) (.int .i64 n9) h4 fun h22 =>
(aC (Addr.add (Addr.add a21 (Int.toNat x5 * 6)) 1) (.int .i64 n10) h22 fun h23 =>
(aC (Addr.add (Addr.add a21 (Int.toNat x5 * 6)) 2) (.bool b11) h23 fun h24 =>
(aC (Addr.add (Addr.add a21 (Int.toNat x5 * 6)) 3) (.bool b12) h24 fun h25 =>
(aC (Addr.add (Addr.add a21 (Int.toNat x5 * 6)) 4) (.bool b13) h25 fun h26 =>
(aC (Addr.add (Addr.add a21 (Int.toNat x5 * 6)) 5) (.int .i64 n14) h26 fun h27 =>
(onSome p0.a fun a28 =>
(inB x6 p0.len
(aC (Addr.add a28 (Int.toNat x6 * 6)) (.int .i64 n15) h27 fun h29 =>
(aC (Addr.add (Addr.add a28 (Int.toNat x6 * 6)) 1) (.int .i64 n16) h29 fun h30 =>
(aC (Addr.add (Addr.add a28 (Int.toNat x6 * 6)) 2) (.bool b17) h30 fun h31 =>
(aC (Addr.add (Addr.add a28 (Int.toNat x6 * 6)) 3) (.bool b18) h31 fun h32 =>
(aC (Addr.add (Addr.add a28 (Int.toNat x6 * 6)) 4) (.bool b19) h32 fun h33 =>
(aC (Addr.add (Addr.add a28 (Int.toNat x6 * 6)) 5) (.int .i64 n20) h33 fun h34 =>
(∃ m3,m3 < m2 ∧ I1 (IntKind.wrap .i64 (x5 + (1 : Int))) (IntKind.wrap .i64 (x6 - (1 : Int))) m3 h34)))))))))))))))))))))))))))))))))
(Q h4)))
def qca_W (f : qca_T) : ArS [.c .s] EnR := fun p0 K _Kp => f p0 (K (.tuple #[]))
abbrev qcb_T := Sl→Int→(AH→Prop)→AP
def qcb_G (f_qca : qca_T) (p0 : Sl) (p1 : Int) (Q : AH→Prop) (h : AH) : Prop :=
(inB p1 (p0.cap + 1)
(f_qca (Sl.mk (if p0.cap = 0 then p0.a else Option.map (fun x => Addr.add x (0 * 6)) p0.a) (Int.toNat p1) p0.cap) (fun h1 =>
(inB p1 (p0.len + 1)
(f_qca (Sl.mk (if p0.cap = (Int.toNat p1) then p0.a else Option.map (fun x => Addr.add x ((Int.toNat p1) * 6)) p0.a) (p0.len - (Int.toNat p1)) (p0.cap - (Int.toNat p1))) (fun h2 =>
(f_qca p0 (fun h3 =>
(Q h3)) h2)) h1))) h))
def qcb_A : qcb_T := qcb_G qca_A
def qcb_W (f : qcb_T) : ArS [.c .s,.c (.i .i64)] EnR := fun p0 p1 K _Kp => f p0 p1 (K (.tuple #[]))
abbrev qcc_T := Sl→Int→(AH→Prop)→AP
def qcc_G (f_qcb : qcb_T) (p0 : Sl) (p1 : Int) (Q : AH→Prop) (h : AH) : Prop :=
(f_qcb p0 (IntKind.wrap .i64 ((Int.ofNat p0.len) - p1)) (fun h1 =>
(Q h1)) h)
def qcc_A : qcc_T := qcc_G qcb_A
def qcc_W (f : qcc_T) : ArS [.c .s,.c (.i .i64)] EnR := fun p0 p1 K _Kp => f p0 p1 (K (.tuple #[]))
abbrev qcd_T := Sl→Int→Sl→(Sl→AH→Prop)→AP
def qcd_G (f_qbz : qbz_T) (f_qcc : qcc_T) (p0 : Sl) (p1 : Int) (p2 : Sl) (Q : Sl→AH→Prop) (h : AH) : Prop :=
(inB p1 (p0.len + 1)
(bsel ((Int.ofNat p2.len) == (0 : Int))
(Q p0 h)
(bsel (p1 == (Int.ofNat p0.len))
(apA 6 32 #[(.int .i64 (0 : Int)),(.int .i64 (0 : Int)),(.bool false),(.bool false),(.bool false),(.int .i64 (0 : Int))] 108 p0 p2 h fun s1 h2 =>
(Q s1 h2))
(bsel (decide ((IntKind.wrap .i64 ((Int.ofNat p0.len) + (Int.ofNat p2.len))) > (Int.ofNat p0.cap)))
(inB p1 (p0.cap + 1)
(apZ 6 32 #[(.int .i64 (0 : Int)),(.int .i64 (0 : Int)),(.bool false),(.bool false),(.bool false),(.int .i64 (0 : Int))] 108 (Sl.mk (if p0.cap = 0 then p0.a else Option.map (fun x => Addr.add x (0 * 6)) p0.a) (Int.toNat p1) p0.cap) (IntKind.wrap .i64 ((IntKind.wrap .i64 ((Int.ofNat p0.len) + (Int.ofNat p2.len))) - p1)) h fun s3 h4 =>
(inB p1 (s3.len + 1)
(cpA 6 (Sl.mk (if s3.cap = (Int.toNat p1) then s3.a else Option.map (fun x => Addr.add x ((Int.toNat p1) * 6)) s3.a) (s3.len - (Int.toNat p1)) (s3.cap - (Int.toNat p1))) p2 h4 fun _ h6 =>
(inB (IntKind.wrap .i64 (p1 + (Int.ofNat p2.len))) (s3.len + 1)
(inB p1 (p0.len + 1)
(cpA 6 (Sl.mk (if s3.cap = (Int.toNat (IntKind.wrap .i64 (p1 + (Int.ofNat p2.len)))) then s3.a else Option.map (fun x => Addr.add x ((Int.toNat (IntKind.wrap .i64 (p1 + (Int.ofNat p2.len)))) * 6)) s3.a) (s3.len - (Int.toNat (IntKind.wrap .i64 (p1 + (Int.ofNat p2.len))))) (s3.cap - (Int.toNat (IntKind.wrap .i64 (p1 + (Int.ofNat p2.len)))))) (Sl.mk (if p0.cap = (Int.toNat p1) then p0.a else Option.map (fun x => Addr.add x ((Int.toNat p1) * 6)) p0.a) (p0.len - (Int.toNat p1)) (p0.cap - (Int.toNat p1))) h6 fun _ h8 =>
(Q s3 h8))))))))
(inB (IntKind.wrap .i64 ((Int.ofNat p0.len) + (Int.ofNat p2.len))) (p0.cap + 1)
(inB (IntKind.wrap .i64 (p1 + (Int.ofNat p2.len))) ((Int.toNat (IntKind.wrap .i64 ((Int.ofNat p0.len) + (Int.ofNat p2.len)))) + 1)
(f_qbz p2 (Sl.mk (if p0.cap = (Int.toNat (IntKind.wrap .i64 (p1 + (Int.ofNat p2.len)))) then (if p0.cap = 0 then p0.a else Option.map (fun x => Addr.add x (0 * 6)) p0.a) else Option.map (fun x => Addr.add x ((Int.toNat (IntKind.wrap .i64 (p1 + (Int.ofNat p2.len)))) * 6)) (if p0.cap = 0 then p0.a else Option.map (fun x => Addr.add x (0 * 6)) p0.a)) ((Int.toNat (IntKind.wrap .i64 ((Int.ofNat p0.len) + (Int.ofNat p2.len)))) - (Int.toNat (IntKind.wrap .i64 (p1 + (Int.ofNat p2.len))))) (p0.cap - (Int.toNat (IntKind.wrap .i64 (p1 + (Int.ofNat p2.len)))))) (fun b9 h10 =>
(bsel (!b9)
(inB (IntKind.wrap .i64 (p1 + (Int.ofNat p2.len))) ((Int.toNat (IntKind.wrap .i64 ((Int.ofNat p0.len) + (Int.ofNat p2.len)))) + 1)
(inB p1 ((Int.toNat (IntKind.wrap .i64 ((Int.ofNat p0.len) + (Int.ofNat p2.len)))) + 1)
(cpA 6 (Sl.mk (if p0.cap = (Int.toNat (IntKind.wrap .i64 (p1 + (Int.ofNat p2.len)))) then (if p0.cap = 0 then p0.a else Option.map (fun x => Addr.add x (0 * 6)) p0.a) else Option.map (fun x => Addr.add x ((Int.toNat (IntKind.wrap .i64 (p1 + (Int.ofNat p2.len)))) * 6)) (if p0.cap = 0 then p0.a else Option.map (fun x => Addr.add x (0 * 6)) p0.a)) ((Int.toNat (IntKind.wrap .i64 ((Int.ofNat p0.len) + (Int.ofNat p2.len)))) - (Int.toNat (IntKind.wrap .i64 (p1 + (Int.ofNat p2.len))))) (p0.cap - (Int.toNat (IntKind.wrap .i64 (p1 + (Int.ofNat p2.len)))))) (Sl.mk (if p0.cap = (Int.toNat p1) then (if p0.cap = 0 then p0.a else Option.map (fun x => Addr.add x (0 * 6)) p0.a) else Option.map (fun x => Addr.add x ((Int.toNat p1) * 6)) (if p0.cap = 0 then p0.a else Option.map (fun x => Addr.add x (0 * 6)) p0.a)) ((Int.toNat (IntKind.wrap .i64 ((Int.ofNat p0.len) + (Int.ofNat p2.len)))) - (Int.toNat p1)) (p0.cap - (Int.toNat p1))) h10 fun _ h12 =>
(inB p1 ((Int.toNat (IntKind.wrap .i64 ((Int.ofNat p0.len) + (Int.ofNat p2.len)))) + 1)
(cpA 6 (Sl.mk (if p0.cap = (Int.toNat p1) then (if p0.cap = 0 then p0.a else Option.map (fun x => Addr.add x (0 * 6)) p0.a) else Option.map (fun x => Addr.add x ((Int.toNat p1) * 6)) (if p0.cap = 0 then p0.a else Option.map (fun x => Addr.add x (0 * 6)) p0.a)) ((Int.toNat (IntKind.wrap .i64 ((Int.ofNat p0.len) + (Int.ofNat p2.len)))) - (Int.toNat p1)) (p0.cap - (Int.toNat p1))) p2 h12 fun _ h14 =>
(Q (Sl.mk (if p0.cap = 0 then p0.a else Option.map (fun x => Addr.add x (0 * 6)) p0.a) (Int.toNat (IntKind.wrap .i64 ((Int.ofNat p0.len) + (Int.ofNat p2.len)))) p0.cap) h14))))))
(inB (Int.ofNat p0.len) ((Int.toNat (IntKind.wrap .i64 ((Int.ofNat p0.len) + (Int.ofNat p2.len)))) + 1)
(cpA 6 (Sl.mk (if p0.cap = (Int.toNat (Int.ofNat p0.len)) then (if p0.cap = 0 then p0.a else Option.map (fun x => Addr.add x (0 * 6)) p0.a) else Option.map (fun x => Addr.add x ((Int.toNat (Int.ofNat p0.len)) * 6)) (if p0.cap = 0 then p0.a else Option.map (fun x => Addr.add x (0 * 6)) p0.a)) ((Int.toNat (IntKind.wrap .i64 ((Int.ofNat p0.len) + (Int.ofNat p2.len)))) - (Int.toNat (Int.ofNat p0.len))) (p0.cap - (Int.toNat (Int.ofNat p0.len)))) p2 h10 fun _ h16 =>
(inB p1 ((Int.toNat (IntKind.wrap .i64 ((Int.ofNat p0.len) + (Int.ofNat p2.len)))) + 1)
(f_qcc (Sl.mk (if p0.cap = (Int.toNat p1) then (if p0.cap = 0 then p0.a else Option.map (fun x => Addr.add x (0 * 6)) p0.a) else Option.map (fun x => Addr.add x ((Int.toNat p1) * 6)) (if p0.cap = 0 then p0.a else Option.map (fun x => Addr.add x (0 * 6)) p0.a)) ((Int.toNat (IntKind.wrap .i64 ((Int.ofNat p0.len) + (Int.ofNat p2.len)))) - (Int.toNat p1)) (p0.cap - (Int.toNat p1))) (Int.ofNat p2.len) (fun h17 =>
(Q (Sl.mk (if p0.cap = 0 then p0.a else Option.map (fun x => Addr.add x (0 * 6)) p0.a) (Int.toNat (IntKind.wrap .i64 ((Int.ofNat p0.len) + (Int.ofNat p2.len)))) p0.cap) h17)) h16)))))) h)))))))
def qcd_A : qcd_T := qcd_G qbz_A qcc_A
def qcd_W (f : qcd_T) : ArS [.c .s,.c (.i .i64),.c .s] EnR := fun p0 p1 p2 K _Kp => f p0 p1 p2 (fun r0 => K (.slice r0.a r0.len r0.cap))
abbrev qce_T := Sl→(Sl→AH→Prop)→AP
def qce_G (f_qbw : qbw_T) (p0 : Sl) (Q : Sl→AH→Prop) (h : AH) : Prop :=
(∃ I1 : Sl→Int→Nat→AH→Prop,(∃ m2,I1 Sl.nil (0 : Int) m2 h) ∧ ∀ s5 : Sl,∀ x6 : Int,∀ m2 h4,I1 s5 x6 m2 h4 →
(bsel (decide (x6 < (Int.ofNat p0.len)))
(∃ R7 : Sl→AH→Prop,(∀ s34 : Sl,∀ h35,R7 s34 h35 →
(∃ m3,m3 < m2 ∧ I1 s34 (IntKind.wrap .i64 (x6 + (1 : Int))) m3 h35)) ∧
(onSome p0.a fun a8 =>
(inB x6 p0.len
(aI .i64 (Addr.add a8 (Int.toNat x6 * 6)) h4 fun n9 =>
(aI .i64 (Addr.add (Addr.add a8 (Int.toNat x6 * 6)) 1) h4 fun n10 =>
(aB (Addr.add (Addr.add a8 (Int.toNat x6 * 6)) 2) h4 fun b11 =>
(aB (Addr.add (Addr.add a8 (Int.toNat x6 * 6)) 3) h4 fun b12 =>
(aB (Addr.add (Addr.add a8 (Int.toNat x6 * 6)) 4) h4 fun b13 =>
(aI .i64 (Addr.add (Addr.add a8 (Int.toNat x6 * 6)) 5) h4 fun n14 =>
(bsel (decide ((Int.ofNat s5.len) > (0 : Int)))
(onSome s5.a fun a15 =>
(inB (IntKind.wrap .i64 ((Int.ofNat s5.len) - (1 : Int))) s5.len
(aI .i64 (Addr.add a15 (Int.toNat (IntKind.wrap .i64 ((Int.ofNat s5.len) - (1 : Int))) * 6)) h4 fun n16 =>
(aI .i64 (Addr.add (Addr.add a15 (Int.toNat (IntKind.wrap .i64 ((Int.ofNat s5.len) - (1 : Int))) * 6)) 1) h4 fun n17 =>
(aB (Addr.add (Addr.add a15 (Int.toNat (IntKind.wrap .i64 ((Int.ofNat s5.len) - (1 : Int))) * 6)) 2) h4 fun b18 =>
(aB (Addr.add (Addr.add a15 (Int.toNat (IntKind.wrap .i64 ((Int.ofNat s5.len) - (1 : Int))) * 6)) 3) h4 fun b19 =>
(aB (Addr.add (Addr.add a15 (Int.toNat (IntKind.wrap .i64 ((Int.ofNat s5.len) - (1 : Int))) * 6)) 4) h4 fun b20 =>
(aI .i64 (Addr.add (Addr.add a15 (Int.toNat (IntKind.wrap .i64 ((Int.ofNat s5.len) - (1 : Int))) * 6)) 5) h4 fun n21 =>
(f_qbw n16 n17 b18 b19 b20 n21 n9 n10 b11 b12 b13 n14 (fun b22 h23 =>
(bsel b22
(onSome s5.a fun a24 =>
(inB (IntKind.wrap .i64 ((Int.ofNat s5.len) - (1 : Int))) s5.len
(aC (Addr.add (Addr.add a24 (Int.toNat (IntKind.wrap .i64 ((Int.ofNat s5.len) - (1 : Int))) * 6)) 1) (.int .i64 n10) h23 fun h25 =>
(R7 s5 h25))))
(newA h23 (.cells #[(.int .i64 n9),(.int .i64 n10),(.bool b11),(.bool b12),(.bool b13),(.int .i64 n14)] 108) fun b26 h27 =>
(apA 6 32 #[(.int .i64 (0 : Int)),(.int .i64 (0 : Int)),(.bool false),(.bool false),(.bool false),(.int .i64 (0 : Int))] 108 s5 (Sl.mk (some (Addr.mk b26 0 none)) 1 1) h27 fun s28 h29 =>
(R7 s28 h29))))) h4)))))))))
(newA h4 (.cells #[(.int .i64 n9),(.int .i64 n10),(.bool b11),(.bool b12),(.bool b13),(.int .i64 n14)] 108) fun b30 h31 =>
(apA 6 32 #[(.int .i64 (0 : Int)),(.int .i64 (0 : Int)),(.bool false),(.bool false),(.bool false),(.int .i64 (0 : Int))] 108 s5 (Sl.mk (some (Addr.mk b30 0 none)) 1 1) h31 fun s32 h33 =>
(R7 s32 h33)))))))))))))
(Q s5 h4)))
def qce_A : qce_T := qce_G qbw_A
def qce_W (f : qce_T) : ArS [.c .s] EnR := fun p0 K _Kp => f p0 (fun r0 => K (.slice r0.a r0.len r0.cap))
abbrev qcf_T := Sl→(Sl→Int→AH→Prop)→AP
def qcf_A (p0 : Sl) (Q : Sl→Int→AH→Prop) (h : AH) : Prop :=
(bsel (decide ((Int.ofNat p0.len) > (64 : Int)))
(Q Sl.nil (4 : Int) h)
(Q p0 (0 : Int) h))
def qcf_W (f : qcf_T) : ArS [.c .s] EnR := fun p0 K _Kp => f p0 (fun r0 r1 => K (.tuple #[(.slice r0.a r0.len r0.cap),(.int .i64 r1)]))
abbrev qcg_T := Sl→Int→Int→Bool→Bool→Bool→Int→(Sl→Int→AH→Prop)→AP
def qcg_G (f_qbv : qbv_T) (f_qbx : qbx_T) (f_qby : qby_T) (f_qcd : qcd_T) (f_qce : qce_T) (f_qcf : qcf_T) (p0 : Sl) (p1 : Int) (p2 : Int) (p3 : Bool) (p4 : Bool) (p5 : Bool) (p6 : Int) (Q : Sl→Int→AH→Prop) (h : AH) : Prop :=
(f_qbv p1 p2 (fun b1 h2 =>
(bsel (!b1)
(Q Sl.nil (1 : Int) h2)
(f_qbx p0 (fun b3 h4 =>
(bsel (!b3)
(Q Sl.nil (3 : Int) h4)
(∃ I5 : Int→Int→Nat→AH→Prop,(∃ m6,I5 (0 : Int) (0 : Int) m6 h4) ∧ ∀ x9 : Int,∀ x10 : Int,∀ m6 h8,I5 x9 x10 m6 h8 →
(bsel (decide (x10 < (Int.ofNat p0.len)))
(∃ R11 : Int→AH→Prop,(∀ x19 : Int,∀ h20,R11 x19 h20 →
(∃ m7,m7 < m6 ∧ I5 x19 (IntKind.wrap .i64 (x10 + (1 : Int))) m7 h20)) ∧
(onSome p0.a fun a12 =>
(inB x10 p0.len
(aI .i64 (Addr.add a12 (Int.toNat x10 * 6)) h8 fun n13 =>
(aI .i64 (Addr.add (Addr.add a12 (Int.toNat x10 * 6)) 1) h8 fun n14 =>
(aB (Addr.add (Addr.add a12 (Int.toNat x10 * 6)) 2) h8 fun _ =>
(aB (Addr.add (Addr.add a12 (Int.toNat x10 * 6)) 3) h8 fun _ =>
(aB (Addr.add (Addr.add a12 (Int.toNat x10 * 6)) 4) h8 fun _ =>
(aI .i64 (Addr.add (Addr.add a12 (Int.toNat x10 * 6)) 5) h8 fun _ =>
(bsel (decide (n14 ≤ p1))
(R11 (IntKind.wrap .i64 (x10 + (1 : Int))) h8)
(bsel (decide (n13 < p2))
(Q Sl.nil (6 : Int) h8)
(R11 x9 h8))))))))))))
((f_qby p0 (fun s21 h22 =>
(newA h22 (.cells #[(.int .i64 p1),(.int .i64 p2),(.bool p3),(.bool p4),(.bool p5),(.int .i64 p6)] 108) fun b23 h24 =>
(f_qcd s21 x9 (Sl.mk (some (Addr.mk b23 0 none)) 1 1) (fun s25 h26 =>
(f_qce s25 (fun s27 h28 =>
(f_qcf s27 (fun s29 n30 h31 =>
(Q s29 n30 h31)) h28)) h26)) h24))) h8) ∧
(newA h8 (.cells #[(.int .i64 p1),(.int .i64 p2),(.bool p3),(.bool p4),(.bool p5),(.int .i64 p6)] 108) fun b32 h33 =>
(f_qby p0 (fun s34 h35 =>
(f_qcd s34 x9 (Sl.mk (some (Addr.mk b32 0 none)) 1 1) (fun s36 h37 =>
(f_qce s36 (fun s38 h39 =>
(f_qcf s38 (fun s40 n41 h42 =>
(Q s40 n41 h42)) h39)) h37)) h35)) h33))))))) h2))) h)
def qcg_A : qcg_T := qcg_G qbv_A qbx_A qby_A qcd_A qce_A qcf_A
def qcg_W (f : qcg_T) : ArS [.c .s,.agg [(.i .i64),(.i .i64),.b,.b,.b,(.i .i64)]] EnR := fun p0 p1 p2 p3 p4 p5 p6 K _Kp => f p0 p1 p2 p3 p4 p5 p6 (fun r0 r1 => K (.tuple #[(.slice r0.a r0.len r0.cap),(.int .i64 r1)]))
abbrev qch_T := Option Addr→Int→Int→Int→Bool→Bool→Bool→(Int→AH→Prop)→AP
def qch_G (f_qcg : qcg_T) (p0 : Option Addr) (p1 : Int) (p2 : Int) (p3 : Int) (p4 : Bool) (p5 : Bool) (p6 : Bool) (Q : Int→AH→Prop) (h : AH) : Prop :=
(onSome p0 fun a1 =>
(aM (Addr.add a1 6) h fun mp2 =>
(aLk h mp2 .i64 p1 fun o3 =>
(∃ pt4 : Option Addr,((o3.getD (.pointer none)) : Value) = (.pointer pt4) ∧
(bsel pt4.isNone
(Q (5 : Int) h)
(onSome pt4 fun a5 =>
(aS (Addr.add a5 2) h fun s6 =>
(f_qcg s6 p2 p3 p4 p5 p6 (0 : Int) (fun s7 n8 h9 =>
(∃ R10 : AH→Prop,(∀ h13,R10 h13 →
(Q n8 h13)) ∧
(bsel (n8 == (0 : Int))
(onSome pt4 fun a11 =>
(aC (Addr.add a11 2) (.slice s7.a s7.len s7.cap) h9 fun h12 =>
(R10 h12)))
(R10 h9)))) h))))))))
def qch_A : qch_T := qch_G qcg_A
def qch_W (f : qch_T) : ArS [.c .p,.c (.i .i64),.agg [(.i .i64),(.i .i64)],.agg [.b,.b,.b]] EnR := fun p0 p1 p2 p3 p4 p5 p6 K _Kp => f p0 p1 p2 p3 p4 p5 p6 (fun r0 => K (.int .i64 r0))
abbrev qci_T := Sl→Int→(Int→Int→Bool→Bool→Bool→Int→Bool→AH→Prop)→AP
def qci_A (p0 : Sl) (p1 : Int) (Q : Int→Int→Bool→Bool→Bool→Int→Bool→AH→Prop) (h : AH) : Prop :=
(∃ I1 : Int→Int→Int→Bool→Bool→Bool→Int→Nat→AH→Prop,(∃ m2,I1 (0 : Int) (0 : Int) (0 : Int) false false false (0 : Int) m2 h) ∧ ∀ x5 : Int,∀ c6 : Int,∀ c7 : Int,∀ c8 : Bool,∀ c9 : Bool,∀ c10 : Bool,∀ c11 : Int,∀ m2 h4,I1 x5 c6 c7 c8 c9 c10 c11 m2 h4 →
(bsel (decide (x5 < (Int.ofNat p0.len)))
(onSome p0.a fun a12 =>
(inB x5 p0.len
(aI .i64 (Addr.add a12 (Int.toNat x5 * 6)) h4 fun n13 =>
(aI .i64 (Addr.add (Addr.add a12 (Int.toNat x5 * 6)) 1) h4 fun n14 =>
(aB (Addr.add (Addr.add a12 (Int.toNat x5 * 6)) 2) h4 fun b15 =>
(aB (Addr.add (Addr.add a12 (Int.toNat x5 * 6)) 3) h4 fun b16 =>
(aB (Addr.add (Addr.add a12 (Int.toNat x5 * 6)) 4) h4 fun b17 =>
(aI .i64 (Addr.add (Addr.add a12 (Int.toNat x5 * 6)) 5) h4 fun n18 =>
(bsel (decide (n13 ≤ p1))
(bsel (decide (p1 < n14))
(Q n13 n14 b15 b16 b17 n18 true h4)
(∃ m3,m3 < m2 ∧ I1 (IntKind.wrap .i64 (x5 + (1 : Int))) c6 c7 c8 c9 c10 c11 m3 h4))
(∃ m3,m3 < m2 ∧ I1 (IntKind.wrap .i64 (x5 + (1 : Int))) c6 c7 c8 c9 c10 c11 m3 h4))))))))))
(Q (0 : Int) (0 : Int) (false : Bool) (false : Bool) (false : Bool) (0 : Int) false h4)))
def qci_W (f : qci_T) : ArS [.c .s,.c (.i .i64)] EnR := fun p0 p1 K _Kp => f p0 p1 (fun r0 r1 r2 r3 r4 r5 r6 => K (.tuple #[(.agg #[(.int .i64 r0),(.int .i64 r1),(.bool r2),(.bool r3),(.bool r4),(.int .i64 r5)]),(.bool r6)]))
abbrev qcj_T := Int→(Int→Int→Int→Int→Int→AH→Prop)→AP
def qcj_A (p0 : Int) (Q : Int→Int→Int→Int→Int→AH→Prop) (h : AH) : Prop :=
(newA h (.cells #[(.int .i64 (0 : Int)),(.int .i64 (0 : Int)),(.int .i64 (0 : Int)),(.int .i64 (0 : Int))] 23) fun b1 h2 =>
(∃ I3 : Int→Nat→AH→Prop,(∃ m4,I3 (0 : Int) m4 h2) ∧ ∀ x7 : Int,∀ m4 h6,I3 x7 m4 h6 →
(bsel (decide (x7 < (4 : Int)))
(bsel (decide ((IntKind.wrap .i64 ((39 : Int) - (IntKind.wrap .i64 ((9 : Int) * x7)))) < 0)) False
(inB x7 4
(aC (Addr.add (Addr.mk b1 0 none) (Int.toNat x7 * 1)) (.int .i64 (IntKind.wrap .i64 (bits .and .u64 (Int.fdiv p0 (2 ^ (min (Int.toNat (IntKind.wrap .i64 ((39 : Int) - (IntKind.wrap .i64 ((9 : Int) * x7))))) 64))) (511 : Int)))) h6 fun h8 =>
(∃ m5,m5 < m4 ∧ I3 (IntKind.wrap .i64 (x7 + (1 : Int))) m5 h8))))
(aI .i64 (Addr.mk b1 0 none) h6 fun n9 =>
(aI .i64 (Addr.add (Addr.mk b1 0 none) 1) h6 fun n10 =>
(aI .i64 (Addr.add (Addr.mk b1 0 none) 2) h6 fun n11 =>
(aI .i64 (Addr.add (Addr.mk b1 0 none) 3) h6 fun n12 =>
(Q n9 n10 n11 n12 (IntKind.wrap .i64 (bits .and .u64 p0 (4095 : Int))) h6))))))))
def qcj_W (f : qcj_T) : ArS [.c (.i .u64)] EnR := fun p0 K _Kp => f p0 (fun r0 r1 r2 r3 r4 => K (.tuple #[(.agg #[(.int .i64 r0),(.int .i64 r1),(.int .i64 r2),(.int .i64 r3)]),(.int .i64 r4)]))
abbrev qck_T := Int→(Int→Int→Int→Int→AH→Prop)→AP
def qck_G (f_qcj : qcj_T) (p0 : Int) (Q : Int→Int→Int→Int→AH→Prop) (h : AH) : Prop :=
(f_qcj (IntKind.wrap .u64 ((IntKind.wrap .u64 p0) * (4096 : Int))) (fun n1 n2 n3 n4 _ h6 =>
(Q n1 n2 n3 n4 h6)) h)
def qck_A : qck_T := qck_G qcj_A
def qck_W (f : qck_T) : ArS [.c (.i .i64)] EnR := fun p0 K _Kp => f p0 (fun r0 r1 r2 r3 => K (.agg #[(.int .i64 r0),(.int .i64 r1),(.int .i64 r2),(.int .i64 r3)]))
abbrev qcl_T := Option Addr→Int→Int→(Int→Int→AH→Prop)→AP
def qcl_G (f_qbm : qbm_T) (p0 : Option Addr) (p1 : Int) (p2 : Int) (Q : Int→Int→AH→Prop) (h : AH) : Prop :=
(f_qbm p0 p1 p2 (fun n1 h2 =>
(bsel (n1 != (0 : Int))
(Q (0 : Int) n1 h2)
(∃ I3 : Int→Int→Nat→AH→Prop,(∃ m4,I3 (0 : Int) (IntKind.wrap .i64 (p2 - (1 : Int))) m4 h2) ∧ ∀ x7 : Int,∀ x8 : Int,∀ m4 h6,I3 x7 x8 m4 h6 →
(bsel (decide (x8 ≥ (0 : Int)))
(∃ R9 : Int→AH→Prop,(∀ x16 : Int,∀ h17,R9 x16 h17 →
(∃ m5,m5 < m4 ∧ I3 x16 (IntKind.wrap .i64 (x8 - (1 : Int))) m5 h17)) ∧
(onSome p0 fun a10 =>
(aM (Addr.add a10 2) h6 fun mp11 =>
(aLk h6 mp11 .i64 (IntKind.wrap .i64 (IntKind.wrap .u64 (Int.tdiv (IntKind.wrap .u64 (p1 + (IntKind.wrap .u64 x8))) (4096 : Int)))) fun o12 =>
(∃ pt13 : Option Addr,((o12.getD (.pointer none)) : Value) = (.pointer pt13) ∧
(bsel (!pt13.isNone)
(onSome pt13 fun a14 =>
(inB (Int.tmod (IntKind.wrap .u64 (p1 + (IntKind.wrap .u64 x8))) (4096 : Int)) 4096
(aI .u8 (Addr.add a14 (Int.toNat (Int.tmod (IntKind.wrap .u64 (p1 + (IntKind.wrap .u64 x8))) (4096 : Int)) * 1)) h6 fun n15 =>
(R9 (bits .or .u64 (IntKind.wrap .u64 (x7 * 2 ^ (8 : Nat))) (IntKind.wrap .u64 n15)) h6))))
(R9 (IntKind.wrap .u64 (x7 * 2 ^ (8 : Nat))) h6)))))))
(Q x7 (0 : Int) h6))))) h)
def qcl_A : qcl_T := qcl_G qbm_A
def qcl_W (f : qcl_T) : ArS [.c .p,.c (.i .u64),.c (.i .i64)] EnR := fun p0 p1 p2 K _Kp => f p0 p1 p2 (fun r0 r1 => K (.tuple #[(.int .u64 r0),(.int .i64 r1)]))
abbrev qcm_T := Int→(Bool→Bool→Bool→Bool→Bool→Bool→Bool→Bool→Int→AH→Prop)→AP
def qcm_G (f_qbi : qbi_T) (f_qbj : qbj_T) (p0 : Int) (Q : Bool→Bool→Bool→Bool→Bool→Bool→Bool→Bool→Int→AH→Prop) (h : AH) : Prop :=
(newA h (.cells #[(.bool false),(.bool false),(.bool false),(.bool false),(.bool false),(.bool false),(.bool false),(.bool false),(.int .i64 (0 : Int))] 68) fun b1 h2 =>
(aC (Addr.mk b1 0 none) (.bool false) h2 fun h3 =>
(aC (Addr.add (Addr.mk b1 0 none) 1) (.bool false) h3 fun h4 =>
(aC (Addr.add (Addr.mk b1 0 none) 2) (.bool false) h4 fun h5 =>
(aC (Addr.add (Addr.mk b1 0 none) 3) (.bool false) h5 fun h6 =>
(aC (Addr.add (Addr.mk b1 0 none) 4) (.bool false) h6 fun h7 =>
(aC (Addr.add (Addr.mk b1 0 none) 5) (.bool false) h7 fun h8 =>
(aC (Addr.add (Addr.mk b1 0 none) 6) (.bool false) h8 fun h9 =>
(aC (Addr.add (Addr.mk b1 0 none) 7) (.bool false) h9 fun h10 =>
(aC (Addr.add (Addr.mk b1 0 none) 8) (.int .i64 (IntKind.wrap .i64 (bits .and .u64 (Int.fdiv p0 (2 ^ (12 : Nat))) (1048575 : Int)))) h10 fun h11 =>
(f_qbi (some (Addr.mk b1 0 none)) (fun pt12 pt13 pt14 pt15 pt16 pt17 pt18 pt19 h20 =>
(∃ I21 : Int→Nat→AH→Prop,(∃ m22,I21 (0 : Int) m22 h20) ∧ ∀ x25 : Int,∀ m22 h24,I21 x25 m22 h24 →
(bsel (decide (x25 < (8 : Int)))
(inB x25 8
(geP [(.pointer pt12),(.pointer pt13),(.pointer pt14),(.pointer pt15),(.pointer pt16),(.pointer pt17),(.pointer pt18),(.pointer pt19)] (Int.toNat x25) fun n26 =>
(f_qbj (fun n27 n28 n29 n30 n31 n32 n33 n34 h35 =>
(inB x25 8
(geI .i64 [(.int .i64 n27),(.int .i64 n28),(.int .i64 n29),(.int .i64 n30),(.int .i64 n31),(.int .i64 n32),(.int .i64 n33),(.int .i64 n34)] (Int.toNat x25) fun n36 =>
(bsel (decide (n36 < 0)) False
(onSome n26 fun a37 =>
(aC a37 (.bool ((bits .and .u64 (Int.fdiv p0 (2 ^ (min (Int.toNat n36) 64))) (1 : Int)) == (1 : Int))) h35 fun h38 =>
(∃ m23,m23 < m22 ∧ I21 (IntKind.wrap .i64 (x25 + (1 : Int))) m23 h38))))))) h24)))
(aB (Addr.mk b1 0 none) h24 fun b39 =>
(aB (Addr.add (Addr.mk b1 0 none) 1) h24 fun b40 =>
(aB (Addr.add (Addr.mk b1 0 none) 2) h24 fun b41 =>
(aB (Addr.add (Addr.mk b1 0 none) 3) h24 fun b42 =>
(aB (Addr.add (Addr.mk b1 0 none) 4) h24 fun b43 =>
(aB (Addr.add (Addr.mk b1 0 none) 5) h24 fun b44 =>
(aB (Addr.add (Addr.mk b1 0 none) 6) h24 fun b45 =>
(aB (Addr.add (Addr.mk b1 0 none) 7) h24 fun b46 =>
(aI .i64 (Addr.add (Addr.mk b1 0 none) 8) h24 fun n47 =>
(Q b39 b40 b41 b42 b43 b44 b45 b46 n47 h24))))))))))))) h11)))))))))))
def qcm_A : qcm_T := qcm_G qbi_A qbj_A
def qcm_W (f : qcm_T) : ArS [.c (.i .u64)] EnR := fun p0 K _Kp => f p0 (fun r0 r1 r2 r3 r4 r5 r6 r7 r8 => K (.agg #[(.bool r0),(.bool r1),(.bool r2),(.bool r3),(.bool r4),(.bool r5),(.bool r6),(.bool r7),(.int .i64 r8)]))
abbrev qcn_T := Option Addr→Option Addr→Option Addr→Int→Int→Int→(Bool→Bool→Bool→Bool→Bool→Bool→Bool→Bool→Int→AH→Prop)→AP
def qcn_G (f_qbl : qbl_T) (f_qcl : qcl_T) (f_qcm : qcm_T) (p0 : Option Addr) (_p1 : Option Addr) (_p2 : Option Addr) (_p3 : Int) (p4 : Int) (p5 : Int) (Q : Bool→Bool→Bool→Bool→Bool→Bool→Bool→Bool→Int→AH→Prop) (h : AH) : Prop :=
(f_qbl p4 p5 (fun n1 h2 =>
(f_qcl p0 n1 (8 : Int) (fun n3 _ h5 =>
(f_qcm n3 (fun b6 b7 b8 b9 b10 b11 b12 b13 n14 h15 =>
(Q b6 b7 b8 b9 b10 b11 b12 b13 n14 h15)) h5)) h2)) h)
def qcn_A : qcn_T := qcn_G qbl_A qcl_A qcm_A
def qcn_W (f : qcn_T) : ArS [.agg [.p,.p,.p,(.i .i64)],.c (.i .i64),.c (.i .i64)] EnR := fun p0 p1 p2 p3 p4 p5 K _Kp => f p0 p1 p2 p3 p4 p5 (fun r0 r1 r2 r3 r4 r5 r6 r7 r8 => K (.agg #[(.bool r0),(.bool r1),(.bool r2),(.bool r3),(.bool r4),(.bool r5),(.bool r6),(.bool r7),(.int .i64 r8)]))
abbrev qco_T := Option Addr→Option Addr→Option Addr→Int→Int→Int→(Sl→AH→Prop)→AP
def qco_G (f_qck : qck_T) (f_qcn : qcn_T) (p0 : Option Addr) (p1 : Option Addr) (p2 : Option Addr) (p3 : Int) (p4 : Int) (p5 : Int) (Q : Sl→AH→Prop) (h : AH) : Prop :=
(f_qck p5 (fun n1 n2 n3 n4 h5 =>
(newA h5 (.cells #[(.int .i64 (0 : Int)),(.int .i64 (0 : Int)),(.int .i64 (0 : Int)),(.int .i64 (0 : Int))] 23) fun b6 h7 =>
(aC (Addr.mk b6 0 none) (.int .i64 n1) h7 fun h8 =>
(aC (Addr.add (Addr.mk b6 0 none) 1) (.int .i64 n2) h8 fun h9 =>
(aC (Addr.add (Addr.mk b6 0 none) 2) (.int .i64 n3) h9 fun h10 =>
(aC (Addr.add (Addr.mk b6 0 none) 3) (.int .i64 n4) h10 fun h11 =>
(newA h11 (.cells #[(.int .i64 p4)] 3) fun b12 h13 =>
(∃ R14 : Sl→AH→Prop,(∀ s38 : Sl,∀ h39,R14 s38 h39 →
(Q s38 h39)) ∧
(∃ I15 : Sl→Int→Nat→AH→Prop,(∃ m16,I15 (Sl.mk (some (Addr.mk b12 0 none)) 1 1) (0 : Int) m16 h13) ∧ ∀ s19 : Sl,∀ x20 : Int,∀ m16 h18,I15 s19 x20 m16 h18 →
(bsel (decide (x20 < (3 : Int)))
(onSome s19.a fun a21 =>
(inB x20 s19.len
(inB x20 4
(aI .i64 (Addr.add a21 (Int.toNat x20 * 1)) h18 fun n22 =>
(aI .i64 (Addr.add (Addr.mk b6 0 none) (Int.toNat x20 * 1)) h18 fun n23 =>
(f_qcn p0 p1 p2 p3 n22 n23 (fun b24 _ _ _ _ _ _ _ n32 h33 =>
(bsel (!b24)
(R14 s19 h33)
(newA h33 (.cells #[(.int .i64 n32)] 3) fun b34 h35 =>
(apA 1 8 #[(.int .i64 (0 : Int))] 3 s19 (Sl.mk (some (Addr.mk b34 0 none)) 1 1) h35 fun s36 h37 =>
(∃ m17,m17 < m16 ∧ I15 s36 (IntKind.wrap .i64 (x20 + (1 : Int))) m17 h37))))) h18))))))
(R14 s19 h18))))))))))) h)
def qco_A : qco_T := qco_G qck_A qcn_A
def qco_W (f : qco_T) : ArS [.agg [.p,.p,.p,(.i .i64)],.c (.i .i64),.c (.i .i64)] EnR := fun p0 p1 p2 p3 p4 p5 K _Kp => f p0 p1 p2 p3 p4 p5 (fun r0 => K (.slice r0.a r0.len r0.cap))
abbrev qcp_T := Option Addr→Option Addr→Option Addr→Int→Int→Int→(Int→Bool→Bool→Bool→Bool→AH→Prop)→AP
def qcp_G (f_qco : qco_T) (f_qck : qck_T) (f_qcn : qcn_T) (p0 : Option Addr) (p1 : Option Addr) (p2 : Option Addr) (p3 : Int) (p4 : Int) (p5 : Int) (Q : Int→Bool→Bool→Bool→Bool→AH→Prop) (h : AH) : Prop :=
(∃ R1 : Bool→Bool→Bool→AH→Prop,(∀ c2 : Bool,∀ c3 : Bool,∀ c4 : Bool,∀ h5,R1 c2 c3 c4 h5 →
(f_qco p0 p1 p2 p3 p4 p5 (fun s6 h7 =>
(bsel (decide ((Int.ofNat s6.len) < (4 : Int)))
(Q (0 : Int) (false : Bool) (false : Bool) (false : Bool) false h7)
(onSome s6.a fun a8 =>
(inB (3 : Int) s6.len
(aI .i64 (Addr.add a8 3) h7 fun n9 =>
(f_qck p5 (fun n10 n11 n12 n13 h14 =>
((aI .i64 (Addr.add a8 3) h14 fun n15 =>
(((.int .i64 n15) : Value) = (.int .i64 n9))) ∧
(geI .i64 [(.int .i64 n10),(.int .i64 n11),(.int .i64 n12),(.int .i64 n13)] 3 fun n16 =>
(f_qcn p0 p1 p2 p3 n9 n16 (fun b17 b18 b19 _ _ _ _ b24 n25 h26 =>
(bsel (!b17)
(Q (0 : Int) (false : Bool) (false : Bool) (false : Bool) false h26)
(Q n25 b18 b19 ((!b24) : Bool) true h26))) h14)))) h7)))))) h5)) ∧
(bsel (decide (p5 < (0 : Int)))
(Q (0 : Int) (false : Bool) (false : Bool) (false : Bool) false h)
(bsel (decide (p5 ≥ (34359738368 : Int)))
(Q (0 : Int) (false : Bool) (false : Bool) (false : Bool) false h)
(R1 false false false h))))
def qcp_A : qcp_T := qcp_G qco_A qck_A qcn_A
def qcp_W (f : qcp_T) : ArS [.agg [.p,.p,.p,(.i .i64)],.c (.i .i64),.c (.i .i64)] EnR := fun p0 p1 p2 p3 p4 p5 K _Kp => f p0 p1 p2 p3 p4 p5 (fun r0 r1 r2 r3 r4 => K (.tuple #[(.int .i64 r0),(.agg #[(.bool r1),(.bool r2),(.bool r3)]),(.bool r4)]))
abbrev qcq_T := Bool→Bool→Bool→Bool→Bool→Bool→(Bool→AH→Prop)→AP
def qcq_A (p0 : Bool) (p1 : Bool) (p2 : Bool) (p3 : Bool) (p4 : Bool) (p5 : Bool) (Q : Bool→AH→Prop) (h : AH) : Prop :=
(bsel p3
(bsel (!p0)
(Q false h)
(bsel p4
(bsel (!p1)
(Q false h)
(bsel p5
(Q (!(!p2)) h)
(Q true h)))
(bsel p5
(Q (!(!p2)) h)
(Q true h))))
(bsel p4
(bsel (!p1)
(Q false h)
(bsel p5
(Q (!(!p2)) h)
(Q true h)))
(bsel p5
(Q (!(!p2)) h)
(Q true h))))
def qcq_W (f : qcq_T) : ArS [.agg [.b,.b,.b],.agg [.b,.b,.b]] EnR := fun p0 p1 p2 p3 p4 p5 K _Kp => f p0 p1 p2 p3 p4 p5 (fun r0 => K (.bool r0))
abbrev qcr_T := Int→Bool→Bool→Bool→(Bool→Bool→Bool→Bool→Bool→Bool→Bool→Bool→Int→AH→Prop)→AP
def qcr_A (p0 : Int) (p1 : Bool) (p2 : Bool) (p3 : Bool) (Q : Bool→Bool→Bool→Bool→Bool→Bool→Bool→Bool→Int→AH→Prop) (h : AH) : Prop :=
(Q (true : Bool) p1 p2 (false : Bool) (false : Bool) (false : Bool) (false : Bool) ((!p3) : Bool) p0 h)
def qcr_W (f : qcr_T) : ArS [.c (.i .i64),.agg [.b,.b,.b]] EnR := fun p0 p1 p2 p3 K _Kp => f p0 p1 p2 p3 (fun r0 r1 r2 r3 r4 r5 r6 r7 r8 => K (.agg #[(.bool r0),(.bool r1),(.bool r2),(.bool r3),(.bool r4),(.bool r5),(.bool r6),(.bool r7),(.int .i64 r8)]))
abbrev qcs_T := Option Addr→Option Addr→Option Addr→Int→Int→Int→Int→Bool→Bool→Bool→(Int→AH→Prop)→AP
def qcs_G (f_qck : qck_T) (f_qco : qco_T) (f_qcn : qcn_T) (f_qbf : qbf_T) (f_qbh : qbh_T) (f_qbp : qbp_T) (f_qcr : qcr_T) (p0 : Option Addr) (p1 : Option Addr) (p2 : Option Addr) (p3 : Int) (p4 : Int) (p5 : Int) (p6 : Int) (p7 : Bool) (p8 : Bool) (p9 : Bool) (Q : Int→AH→Prop) (h : AH) : Prop :=
(∃ R1 : AH→Prop,(∀ h2,R1 h2 →
(f_qck p5 (fun n3 n4 n5 n6 h7 =>
(f_qco p0 p1 p2 p3 p4 p5 (fun s8 h9 =>
(newA h9 (.cells #[(.int .i64 (0 : Int)),(.int .i64 (0 : Int)),(.int .i64 (0 : Int)),(.int .i64 (0 : Int))] 23) fun b10 h11 =>
(aC (Addr.mk b10 0 none) (.int .i64 n3) h11 fun h12 =>
(aC (Addr.add (Addr.mk b10 0 none) 1) (.int .i64 n4) h12 fun h13 =>
(aC (Addr.add (Addr.mk b10 0 none) 2) (.int .i64 n5) h13 fun h14 =>
(aC (Addr.add (Addr.mk b10 0 none) 3) (.int .i64 n6) h14 fun h15 =>
(∃ R16 : AH→Prop,(∀ h30,R16 h30 →
(∃ I31 : Sl→Int→Nat→AH→Prop,(∃ m32,I31 Sl.nil (0 : Int) m32 h30) ∧ ∀ s35 : Sl,∀ x36 : Int,∀ m32 h34,I31 s35 x36 m32 h34 →
(bsel (decide (x36 < (IntKind.wrap .i64 ((4 : Int) - (Int.ofNat s8.len)))))
(f_qbf p0 p1 p2 p3 (fun n37 n38 h39 =>
(bsel (n38 != (0 : Int))
(∃ I40 : Int→Nat→AH→Prop,(∃ m41,I40 (0 : Int) m41 h39) ∧ ∀ x44 : Int,∀ m41 h43,I40 x44 m41 h43 →
(bsel (decide (x44 < (Int.ofNat s35.len)))
(onSome s35.a fun a45 =>
(inB x44 s35.len
(aI .i64 (Addr.add a45 (Int.toNat x44 * 1)) h43 fun n46 =>
(f_qbh p0 p1 p2 p3 n46 (fun h47 =>
(∃ m42,m42 < m41 ∧ I40 (IntKind.wrap .i64 (x44 + (1 : Int))) m42 h47)) h43))))
(Q n38 h43)))
(newA h39 (.cells #[(.int .i64 n37)] 3) fun b48 h49 =>
(apA 1 8 #[(.int .i64 (0 : Int))] 3 s35 (Sl.mk (some (Addr.mk b48 0 none)) 1 1) h49 fun s50 h51 =>
(∃ m33,m33 < m32 ∧ I31 s50 (IntKind.wrap .i64 (x36 + (1 : Int))) m33 h51))))) h34)
(∃ I52 : Sl→Int→Nat→AH→Prop,(∃ m53,I52 s8 (0 : Int) m53 h34) ∧ ∀ s56 : Sl,∀ x57 : Int,∀ m53 h55,I52 s56 x57 m53 h55 →
(bsel (decide (x57 < (Int.ofNat s35.len)))
(onSome s35.a fun a58 =>
(inB x57 s35.len
(aI .i64 (Addr.add a58 (Int.toNat x57 * 1)) h55 fun n59 =>
(onSome s56.a fun a60 =>
(inB (IntKind.wrap .i64 ((Int.ofNat s56.len) - (1 : Int))) s56.len
(aI .i64 (Addr.add a60 (Int.toNat (IntKind.wrap .i64 ((Int.ofNat s56.len) - (1 : Int))) * 1)) h55 fun n61 =>
(inB (IntKind.wrap .i64 ((Int.ofNat s56.len) - (1 : Int))) 4
(aI .i64 (Addr.add (Addr.mk b10 0 none) (Int.toNat (IntKind.wrap .i64 ((Int.ofNat s56.len) - (1 : Int))) * 1)) h55 fun n62 =>
(f_qbp p0 p1 p2 p3 n61 n62 true true true false false false false false n59 (fun h63 =>
(newA h63 (.cells #[(.int .i64 n59)] 3) fun b64 h65 =>
(apA 1 8 #[(.int .i64 (0 : Int))] 3 s56 (Sl.mk (some (Addr.mk b64 0 none)) 1 1) h65 fun s66 h67 =>
(∃ m54,m54 < m53 ∧ I52 s66 (IntKind.wrap .i64 (x57 + (1 : Int))) m54 h67)))) h55)))))))))
(onSome s56.a fun a68 =>
(inB (3 : Int) s56.len
(aI .i64 (Addr.add a68 3) h55 fun n69 =>
(aI .i64 (Addr.add (Addr.mk b10 0 none) 3) h55 fun n70 =>
(f_qcr p6 p7 p8 p9 (fun b71 b72 b73 b74 b75 b76 b77 b78 n79 h80 =>
((aI .i64 (Addr.add (Addr.mk b10 0 none) 3) h80 fun n81 =>
(((.int .i64 n81) : Value) = (.int .i64 n70))) ∧
((aI .i64 (Addr.add a68 3) h80 fun n82 =>
(((.int .i64 n82) : Value) = (.int .i64 n69))) ∧
(f_qbp p0 p1 p2 p3 n69 n70 b71 b72 b73 b74 b75 b76 b77 b78 n79 (fun h83 =>
(Q (0 : Int) h83)) h80)))) h55)))))))))) ∧
(bsel ((Int.ofNat s8.len) == (4 : Int))
(onSome s8.a fun a17 =>
(inB (3 : Int) s8.len
(aI .i64 (Addr.add a17 3) h15 fun n18 =>
(aI .i64 (Addr.add (Addr.mk b10 0 none) 3) h15 fun n19 =>
(f_qcn p0 p1 p2 p3 n18 n19 (fun b20 _ _ _ _ _ _ _ _ h29 =>
(bsel b20
(Q (6 : Int) h29)
(R16 h29))) h15)))))
(R16 h15))))))))) h7)) h2)) ∧
(bsel (decide (p5 < (0 : Int)))
(Q (1 : Int) h)
(bsel (decide (p5 ≥ (34359738368 : Int)))
(Q (1 : Int) h)
(bsel (decide (p6 < (0 : Int)))
(Q (1 : Int) h)
(bsel (decide (p6 ≥ (1048576 : Int)))
(Q (1 : Int) h)
(R1 h))))))
def qcs_A : qcs_T := qcs_G qck_A qco_A qcn_A qbf_A qbh_A qbp_A qcr_A
def qcs_W (f : qcs_T) : ArS [.agg [.p,.p,.p,(.i .i64)],.c (.i .i64),.c (.i .i64),.c (.i .i64),.agg [.b,.b,.b]] EnR := fun p0 p1 p2 p3 p4 p5 p6 p7 p8 p9 K _Kp => f p0 p1 p2 p3 p4 p5 p6 p7 p8 p9 (fun r0 => K (.int .i64 r0))
abbrev qct_T := Option Addr→Int→Int→Bool→Bool→Bool→(Int→Int→Int→AH→Prop)→AP
def qct_G (f_qci : qci_T) (f_qat : qat_T) (f_qcp : qcp_T) (f_qcq : qcq_T) (f_qbf : qbf_T) (f_qcs : qcs_T) (f_qbh : qbh_T) (p0 : Option Addr) (p1 : Int) (p2 : Int) (p3 : Bool) (p4 : Bool) (p5 : Bool) (Q : Int→Int→Int→AH→Prop) (h : AH) : Prop :=
(onSome p0 fun a1 =>
(aM (Addr.add a1 6) h fun mp2 =>
(aLk h mp2 .i64 p1 fun o3 =>
(∃ pt4 : Option Addr,((o3.getD (.pointer none)) : Value) = (.pointer pt4) ∧
(bsel pt4.isNone
(Q (0 : Int) (0 : Int) (5 : Int) h)
(newA h (.cells #[(.bool p3),(.bool p4)] 4) fun b5 h6 =>
(∃ I7 : Int→Int→Nat→AH→Prop,(∃ m8,I7 (0 : Int) (0 : Int) m8 h6) ∧ ∀ x11 : Int,∀ x12 : Int,∀ m8 h10,I7 x11 x12 m8 h10 →
(bsel (decide (x12 < (2 : Int)))
(∃ R13 : Int→AH→Prop,(∀ x15 : Int,∀ h16,R13 x15 h16 →
(∃ m9,m9 < m8 ∧ I7 x15 (IntKind.wrap .i64 (x12 + (1 : Int))) m9 h16)) ∧
(inB x12 2
(aB (Addr.add (Addr.mk b5 0 none) (Int.toNat x12 * 1)) h10 fun b14 =>
(bsel b14
(bsel (decide (x12 < 0)) False
(R13 (bits .or .i64 x11 (IntKind.wrap .i64 ((2 : Int) * 2 ^ (min (Int.toNat x12) 64)))) h10))
(R13 x11 h10)))))
(∃ R17 : Int→AH→Prop,(∀ x18 : Int,∀ h19,R17 x18 h19 →
(onSome pt4 fun a20 =>
(aS (Addr.add a20 2) h19 fun s21 =>
(f_qci s21 p2 (fun _ _ b24 b25 b26 _ b28 h29 =>
(bsel (!b28)
(Q (0 : Int) x18 (9 : Int) h29)
(onSome pt4 fun a30 =>
(aI .i64 a30 h29 fun n31 =>
(f_qat p0 n31 (fun pt32 pt33 pt34 n35 h36 =>
(onSome pt4 fun a37 =>
(aI .i64 (Addr.add a37 1) h36 fun n38 =>
(f_qcp pt32 pt33 pt34 n35 n38 p2 (fun n39 _ _ _ b43 h44 =>
(f_qcq b24 b25 b26 p3 p4 p5 (fun b45 h46 =>
(bsel (!b45)
(∃ R47 : Int→AH→Prop,(∀ x48 : Int,∀ h49,R47 x48 h49 →
(Q (0 : Int) x48 (9 : Int) h49)) ∧
(bsel b43
(R47 (bits .or .i64 x18 (1 : Int)) h46)
(R47 x18 h46)))
(bsel b43
(Q n39 (0 : Int) (0 : Int) h46)
(f_qbf pt32 pt33 pt34 n35 (fun n50 n51 h52 =>
(bsel (n51 != (0 : Int))
(Q (0 : Int) (0 : Int) n51 h52)
(onSome pt4 fun a53 =>
(aI .i64 (Addr.add a53 1) h52 fun n54 =>
(f_qcs pt32 pt33 pt34 n35 n54 p2 n50 b24 b25 b26 (fun n55 h56 =>
(bsel (n55 != (0 : Int))
(f_qbh pt32 pt33 pt34 n35 n50 (fun h57 =>
(Q (0 : Int) (0 : Int) n55 h57)) h56)
(Q n50 (0 : Int) (0 : Int) h56))) h52))))) h46)))) h44)) h36)))) h29))))) h19)))) ∧
(bsel p5
(R17 (bits .or .i64 x11 (16 : Int)) h10)
(R17 x11 h10)))))))))))
def qct_A : qct_T := qct_G qci_A qat_A qcp_A qcq_A qbf_A qcs_A qbh_A
def qct_W (f : qct_T) : ArS [.c .p,.c (.i .i64),.c (.i .i64),.agg [.b,.b,.b]] EnR := fun p0 p1 p2 p3 p4 p5 K _Kp => f p0 p1 p2 p3 p4 p5 (fun r0 r1 r2 => K (.tuple #[(.int .i64 r0),(.int .i64 r1),(.int .i64 r2)]))
abbrev qcu_T := Option Nat→(Option Addr→AH→Prop)→AP
def qcu_A (p0 : Option Nat) (Q : Option Addr→AH→Prop) (h : AH) : Prop :=
(newA h (.cells #[(.map p0)] 77) fun b1 h2 =>
(Q (some (Addr.mk b1 0 none)) h2))
def qcu_W (f : qcu_T) : ArS [.c .m] EnR := fun p0 K _Kp => f p0 (fun r0 => K (.func (.func 100) #[] #[(.pointer r0)]))
abbrev qcv_T := Option Addr→(Sl→AH→Prop)→AP
def qcv_A : qcv_T := clA 3
def qcv_W (f : qcv_T) : ArS [.fn 100 [] [.p]] EnR := fun p0 K _Kp => f p0 (fun r0 => K (.slice r0.a r0.len r0.cap))
abbrev qcw_T := Sl→AP→AP
def qcw_A : qcw_T := soI
def qcw_W (f : qcw_T) : ArS [.c .s] EnR := fun p0 K _Kp => f p0 (K (.tuple #[]))
abbrev qcx_T := Option Addr→(Sl→AH→Prop)→AP
def qcx_G (f_qcv : qcv_T) (f_qcw : qcw_T) (p0 : Option Addr) (Q : Sl→AH→Prop) (h : AH) : Prop :=
(f_qcv p0 (fun s1 h2 =>
(f_qcw s1 (fun h3 =>
(Q s1 h3)) h2)) h)
def qcx_A : qcx_T := qcx_G qcv_A qcw_A
def qcx_W (f : qcx_T) : ArS [.fn 100 [] [.p]] EnR := fun p0 K _Kp => f p0 (fun r0 => K (.slice r0.a r0.len r0.cap))
abbrev qcy_T := Option Addr→(Sl→AH→Prop)→AP
def qcy_G (f_qcu : qcu_T) (f_qcx : qcx_T) (p0 : Option Addr) (Q : Sl→AH→Prop) (h : AH) : Prop :=
(onSome p0 fun a1 =>
(aM (Addr.add a1 6) h fun mp2 =>
(f_qcu mp2 (fun pt3 h4 =>
(f_qcx pt3 (fun s5 h6 =>
(Q s5 h6)) h4)) h)))
def qcy_A : qcy_T := qcy_G qcu_A qcx_A
def qcy_W (f : qcy_T) : ArS [.c .p] EnR := fun p0 K _Kp => f p0 (fun r0 => K (.slice r0.a r0.len r0.cap))
abbrev qcz_T := Option Addr→Int→(Int→Bool→AH→Prop)→AP
def qcz_A (p0 : Option Addr) (p1 : Int) (Q : Int→Bool→AH→Prop) (h : AH) : Prop :=
(onSome p0 fun a1 =>
(aM (Addr.add a1 6) h fun mp2 =>
(aLk h mp2 .i64 p1 fun o3 =>
(∃ pt4 : Option Addr,((o3.getD (.pointer none)) : Value) = (.pointer pt4) ∧
(bsel (!pt4.isNone)
(onSome pt4 fun a5 =>
(aI .i64 (Addr.add a5 1) h fun n6 =>
(Q n6 true h)))
(Q (0 : Int) false h))))))
def qcz_W (f : qcz_T) : ArS [.c .p,.c (.i .i64)] EnR := fun p0 p1 K _Kp => f p0 p1 (fun r0 r1 => K (.tuple #[(.int .i64 r0),(.bool r1)]))
abbrev qda_T := Int→Bool→Bool→Bool→Bool→Bool→Bool→Bool→Bool→Int→Option Addr→(AH→Prop)→AP
def qda_A (_p0 : Int) (_p1 : Bool) (_p2 : Bool) (_p3 : Bool) (_p4 : Bool) (_p5 : Bool) (_p6 : Bool) (_p7 : Bool) (_p8 : Bool) (p9 : Int) (p10 : Option Addr) (Q : AH→Prop) (h : AH) : Prop :=
(onSome p10 fun a1 =>
(aP a1 h fun pt2 =>
(onSome p10 fun a3 =>
(aP a3 h fun pt4 =>
(onSome pt4 fun a5 =>
(aS (Addr.add a5 1) h fun s6 =>
(newA h (.cells #[(.int .i64 p9),(.int .i64 (1 : Int)),(.int .i64 (0 : Int))] 26) fun b7 h8 =>
((aS (Addr.add a5 1) h8 fun s9 =>
(((.slice s9.a s9.len s9.cap) : Value) = (.slice s6.a s6.len s6.cap))) ∧
((onSome p10 fun a10 =>
(aP a10 h8 fun pt11 =>
(((.pointer pt11) : Value) = (.pointer pt4)))) ∧
((onSome p10 fun a12 =>
(aP a12 h8 fun pt13 =>
(((.pointer pt13) : Value) = (.pointer pt2)))) ∧
(apA 3 24 #[(.int .i64 (0 : Int)),(.int .i64 (0 : Int)),(.int .i64 (0 : Int))] 26 s6 (Sl.mk (some (Addr.mk b7 0 none)) 1 1) h8 fun s14 h15 =>
((onSome p10 fun a16 =>
(aP a16 h15 fun pt17 =>
(((.pointer pt17) : Value) = (.pointer pt2)))) ∧
(onSome pt2 fun a18 =>
(aC (Addr.add a18 1) (.slice s14.a s14.len s14.cap) h15 fun h19 =>
(Q h19)))))))))))))))
def qda_W (f : qda_T) : ArS [.c (.i .i64),.agg [.b,.b,.b,.b,.b,.b,.b,.b,(.i .i64)],.c .p] EnR := fun p0 p1 p2 p3 p4 p5 p6 p7 p8 p9 p10 K _Kp => f p0 p1 p2 p3 p4 p5 p6 p7 p8 p9 p10 (K (.tuple #[]))
abbrev qdb_T := Option Addr→Int→Option Addr→(AH→Prop)→AP
def qdb_G (f_qcl : qcl_T) (f_qcm : qcm_T) (f_qda : qda_T) (p0 : Option Addr) (p1 : Int) (p2 : Option Addr) (Q : AH→Prop) (h : AH) : Prop :=
(∃ I1 : Int→Nat→AH→Prop,(∃ m2,I1 (0 : Int) m2 h) ∧ ∀ x5 : Int,∀ m2 h4,I1 x5 m2 h4 →
(bsel (decide (x5 < (512 : Int)))
(∃ R6 : AH→Prop,(∀ h25,R6 h25 →
(∃ m3,m3 < m2 ∧ I1 (IntKind.wrap .i64 (x5 + (1 : Int))) m3 h25)) ∧
(onSome p0 fun a7 =>
(aP a7 h4 fun pt8 =>
(onSome pt8 fun a9 =>
(aP a9 h4 fun pt10 =>
(f_qcl pt10 (IntKind.wrap .u64 ((IntKind.wrap .u64 ((IntKind.wrap .u64 p1) * (4096 : Int))) + (IntKind.wrap .u64 (IntKind.wrap .i64 ((8 : Int) * x5))))) (8 : Int) (fun n11 _ h13 =>
(f_qcm n11 (fun b14 b15 b16 b17 b18 b19 b20 b21 n22 h23 =>
(bsel b14
(f_qda x5 b14 b15 b16 b17 b18 b19 b20 b21 n22 p2 (fun h24 =>
(R6 h24)) h23)
(R6 h23))) h13)) h4))))))
(Q h4)))
def qdb_A : qdb_T := qdb_G qcl_A qcm_A qda_A
def qdb_W (f : qdb_T) : ArS [.c .p,.c (.i .i64),.fn 59 [] [.p]] EnR := fun p0 p1 p2 K _Kp => f p0 p1 p2 (K (.tuple #[]))
abbrev qdc_T := Option Addr→Int→(AH→Prop)→AP
def qdc_G (f_qdb : qdb_T) (p0 : Option Addr) (p1 : Int) (Q : AH→Prop) (h : AH) : Prop :=
(newA h (.cells #[(.pointer p0)] 59) fun b1 h2 =>
(aP (Addr.mk b1 0 none) h2 fun pt3 =>
(aP (Addr.mk b1 0 none) h2 fun pt4 =>
(onSome pt4 fun a5 =>
(aS (Addr.add a5 1) h2 fun s6 =>
(newA h2 (.cells #[(.int .i64 p1),(.int .i64 (1 : Int)),(.int .i64 (0 : Int))] 26) fun b7 h8 =>
((aS (Addr.add a5 1) h8 fun s9 =>
(((.slice s9.a s9.len s9.cap) : Value) = (.slice s6.a s6.len s6.cap))) ∧
((aP (Addr.mk b1 0 none) h8 fun pt10 =>
(((.pointer pt10) : Value) = (.pointer pt4))) ∧
((aP (Addr.mk b1 0 none) h8 fun pt11 =>
(((.pointer pt11) : Value) = (.pointer pt3))) ∧
(apA 3 24 #[(.int .i64 (0 : Int)),(.int .i64 (0 : Int)),(.int .i64 (0 : Int))] 26 s6 (Sl.mk (some (Addr.mk b7 0 none)) 1 1) h8 fun s12 h13 =>
((aP (Addr.mk b1 0 none) h13 fun pt14 =>
(((.pointer pt14) : Value) = (.pointer pt3))) ∧
(onSome pt3 fun a15 =>
(aC (Addr.add a15 1) (.slice s12.a s12.len s12.cap) h13 fun h16 =>
(aP (Addr.mk b1 0 none) h16 fun pt17 =>
(f_qdb pt17 p1 (some (Addr.mk b1 0 none)) (fun h18 =>
(Q h18)) h16)))))))))))))))
def qdc_A : qdc_T := qdc_G qdb_A
def qdc_W (f : qdc_T) : ArS [.c .p,.c (.i .i64)] EnR := fun p0 p1 K _Kp => f p0 p1 (K (.tuple #[]))
abbrev qdd_T := Int→Bool→Bool→Bool→Bool→Bool→Bool→Bool→Bool→Int→Option Addr→(AH→Prop)→AP
def qdd_G (f_qdc : qdc_T) (p0 : Int) (_p1 : Bool) (_p2 : Bool) (_p3 : Bool) (_p4 : Bool) (_p5 : Bool) (_p6 : Bool) (_p7 : Bool) (_p8 : Bool) (p9 : Int) (p10 : Option Addr) (Q : AH→Prop) (h : AH) : Prop :=
(bsel (p0 == (256 : Int))
(onSome p10 fun a1 =>
(aP a1 h fun pt2 =>
(f_qdc pt2 p9 (fun h3 =>
(Q h3)) h)))
(Q h))
def qdd_A : qdd_T := qdd_G qdc_A
def qdd_W (f : qdd_T) : ArS [.c (.i .i64),.agg [.b,.b,.b,.b,.b,.b,.b,.b,(.i .i64)],.c .p] EnR := fun p0 p1 p2 p3 p4 p5 p6 p7 p8 p9 p10 K _Kp => f p0 p1 p2 p3 p4 p5 p6 p7 p8 p9 p10 (K (.tuple #[]))
abbrev qde_T := Option Addr→Int→Option Addr→(AH→Prop)→AP
def qde_G (f_qcl : qcl_T) (f_qcm : qcm_T) (f_qdd : qdd_T) (p0 : Option Addr) (p1 : Int) (p2 : Option Addr) (Q : AH→Prop) (h : AH) : Prop :=
(∃ I1 : Int→Nat→AH→Prop,(∃ m2,I1 (0 : Int) m2 h) ∧ ∀ x5 : Int,∀ m2 h4,I1 x5 m2 h4 →
(bsel (decide (x5 < (512 : Int)))
(∃ R6 : AH→Prop,(∀ h25,R6 h25 →
(∃ m3,m3 < m2 ∧ I1 (IntKind.wrap .i64 (x5 + (1 : Int))) m3 h25)) ∧
(onSome p0 fun a7 =>
(aP a7 h4 fun pt8 =>
(onSome pt8 fun a9 =>
(aP a9 h4 fun pt10 =>
(f_qcl pt10 (IntKind.wrap .u64 ((IntKind.wrap .u64 ((IntKind.wrap .u64 p1) * (4096 : Int))) + (IntKind.wrap .u64 (IntKind.wrap .i64 ((8 : Int) * x5))))) (8 : Int) (fun n11 _ h13 =>
(f_qcm n11 (fun b14 b15 b16 b17 b18 b19 b20 b21 n22 h23 =>
(bsel b14
(f_qdd x5 b14 b15 b16 b17 b18 b19 b20 b21 n22 p2 (fun h24 =>
(R6 h24)) h23)
(R6 h23))) h13)) h4))))))
(Q h4)))
def qde_A : qde_T := qde_G qcl_A qcm_A qdd_A
def qde_W (f : qde_T) : ArS [.c .p,.c (.i .i64),.fn 19 [] [.p]] EnR := fun p0 p1 p2 K _Kp => f p0 p1 p2 (K (.tuple #[]))
abbrev qdf_T := Option Addr→Int→(Sl→AH→Prop)→AP
def qdf_G (f_qby : qby_T) (p0 : Option Addr) (p1 : Int) (Q : Sl→AH→Prop) (h : AH) : Prop :=
(onSome p0 fun a1 =>
(aM (Addr.add a1 6) h fun mp2 =>
(aLk h mp2 .i64 p1 fun o3 =>
(∃ pt4 : Option Addr,((o3.getD (.pointer none)) : Value) = (.pointer pt4) ∧
(bsel (!pt4.isNone)
(onSome pt4 fun a5 =>
(aS (Addr.add a5 2) h fun s6 =>
(f_qby s6 (fun s7 h8 =>
(Q s7 h8)) h)))
(Q Sl.nil h))))))
def qdf_A : qdf_T := qdf_G qby_A
def qdf_W (f : qdf_T) : ArS [.c .p,.c (.i .i64)] EnR := fun p0 p1 K _Kp => f p0 p1 (fun r0 => K (.slice r0.a r0.len r0.cap))
abbrev qdg_T := Option Addr→Int→Int→Int→Int→(AH→Prop)→AP
def qdg_W (f : qdg_T) : ArS [.c .p,.c (.i .i64),.c (.i .i64),.c (.i .i64),.c (.i .i64)] EnR := fun p0 p1 p2 p3 p4 K _Kp => f p0 p1 p2 p3 p4 (K (.tuple #[]))
abbrev qdh_T := Int→Bool→Bool→Bool→Bool→Bool→Bool→Bool→Bool→Int→Option Addr→Option Addr→Option Addr→Option Addr→(AH→Prop)→AP
def qdh_G (f_qdg : qdg_T) (f_qdf : qdf_T) (f_qci : qci_T) (p0 : Int) (_p1 : Bool) (_p2 : Bool) (_p3 : Bool) (_p4 : Bool) (_p5 : Bool) (_p6 : Bool) (_p7 : Bool) (_p8 : Bool) (p9 : Int) (p10 : Option Addr) (p11 : Option Addr) (p12 : Option Addr) (p13 : Option Addr) (Q : AH→Prop) (h : AH) : Prop :=
(onSome p10 fun a1 =>
(aI .i64 a1 h fun n2 =>
(bsel (n2 == (4 : Int))
(bsel (p0 == (256 : Int))
(Q h)
(onSome p10 fun a3 =>
(aI .i64 a3 h fun n4 =>
(bsel (decide (n4 > (1 : Int)))
(onSome p11 fun a5 =>
(aP a5 h fun pt6 =>
(onSome p12 fun a7 =>
(aI .i64 a7 h fun n8 =>
(onSome p10 fun a9 =>
(aI .i64 a9 h fun n10 =>
(onSome p13 fun a11 =>
(aI .i64 a11 h fun n12 =>
(f_qdg pt6 n8 p9 (IntKind.wrap .i64 (n10 - (1 : Int))) (bits .or .i64 (IntKind.wrap .i64 (n12 * 2 ^ (9 : Nat))) p0) (fun h13 =>
(Q h13)) h)))))))))
(onSome p11 fun a14 =>
(aP a14 h fun pt15 =>
(onSome pt15 fun a16 =>
(aP a16 h fun pt17 =>
(onSome p12 fun a18 =>
(aI .i64 a18 h fun n19 =>
(onSome p13 fun a20 =>
(aI .i64 a20 h fun n21 =>
(f_qdf pt17 n19 (fun s22 h23 =>
((onSome p13 fun a24 =>
(aI .i64 a24 h23 fun n25 =>
(((.int .i64 n25) : Value) = (.int .i64 n21)))) ∧
(f_qci s22 (bits .or .i64 (IntKind.wrap .i64 (n21 * 2 ^ (9 : Nat))) p0) (fun _ _ _ _ _ n31 b32 h33 =>
(∃ R34 : Bool→AH→Prop,(∀ b35 : Bool,∀ h36,R34 b35 h36 →
(bsel b35
(onSome p11 fun a37 =>
(aP a37 h36 fun pt38 =>
(onSome p11 fun a39 =>
(aP a39 h36 fun pt40 =>
(onSome pt40 fun a41 =>
(aS (Addr.add a41 1) h36 fun s42 =>
(onSome p12 fun a43 =>
(aI .i64 a43 h36 fun n44 =>
(newA h36 (.cells #[(.int .i64 p9),(.int .i64 (3 : Int)),(.int .i64 n44)] 26) fun b45 h46 =>
((aS (Addr.add a41 1) h46 fun s47 =>
(((.slice s47.a s47.len s47.cap) : Value) = (.slice s42.a s42.len s42.cap))) ∧
((onSome p11 fun a48 =>
(aP a48 h46 fun pt49 =>
(((.pointer pt49) : Value) = (.pointer pt40)))) ∧
((onSome p11 fun a50 =>
(aP a50 h46 fun pt51 =>
(((.pointer pt51) : Value) = (.pointer pt38)))) ∧
(apA 3 24 #[(.int .i64 (0 : Int)),(.int .i64 (0 : Int)),(.int .i64 (0 : Int))] 26 s42 (Sl.mk (some (Addr.mk b45 0 none)) 1 1) h46 fun s52 h53 =>
((onSome p11 fun a54 =>
(aP a54 h53 fun pt55 =>
(((.pointer pt55) : Value) = (.pointer pt38)))) ∧
(onSome pt38 fun a56 =>
(aC (Addr.add a56 1) (.slice s52.a s52.len s52.cap) h53 fun h57 =>
(Q h57)))))))))))))))))
(Q h36))) ∧
(bsel b32
(R34 (n31 == (0 : Int)) h33)
(R34 false h33)))) h23))) h)))))))))))))
(onSome p10 fun a58 =>
(aI .i64 a58 h fun n59 =>
(bsel (decide (n59 > (1 : Int)))
(onSome p11 fun a60 =>
(aP a60 h fun pt61 =>
(onSome p12 fun a62 =>
(aI .i64 a62 h fun n63 =>
(onSome p10 fun a64 =>
(aI .i64 a64 h fun n65 =>
(onSome p13 fun a66 =>
(aI .i64 a66 h fun n67 =>
(f_qdg pt61 n63 p9 (IntKind.wrap .i64 (n65 - (1 : Int))) (bits .or .i64 (IntKind.wrap .i64 (n67 * 2 ^ (9 : Nat))) p0) (fun h68 =>
(Q h68)) h)))))))))
(onSome p11 fun a69 =>
(aP a69 h fun pt70 =>
(onSome pt70 fun a71 =>
(aP a71 h fun pt72 =>
(onSome p12 fun a73 =>
(aI .i64 a73 h fun n74 =>
(onSome p13 fun a75 =>
(aI .i64 a75 h fun n76 =>
(f_qdf pt72 n74 (fun s77 h78 =>
((onSome p13 fun a79 =>
(aI .i64 a79 h78 fun n80 =>
(((.int .i64 n80) : Value) = (.int .i64 n76)))) ∧
(f_qci s77 (bits .or .i64 (IntKind.wrap .i64 (n76 * 2 ^ (9 : Nat))) p0) (fun _ _ _ _ _ n86 b87 h88 =>
(∃ R89 : Bool→AH→Prop,(∀ b90 : Bool,∀ h91,R89 b90 h91 →
(bsel b90
(onSome p11 fun a92 =>
(aP a92 h91 fun pt93 =>
(onSome p11 fun a94 =>
(aP a94 h91 fun pt95 =>
(onSome pt95 fun a96 =>
(aS (Addr.add a96 1) h91 fun s97 =>
(onSome p12 fun a98 =>
(aI .i64 a98 h91 fun n99 =>
(newA h91 (.cells #[(.int .i64 p9),(.int .i64 (3 : Int)),(.int .i64 n99)] 26) fun b100 h101 =>
((aS (Addr.add a96 1) h101 fun s102 =>
(((.slice s102.a s102.len s102.cap) : Value) = (.slice s97.a s97.len s97.cap))) ∧
((onSome p11 fun a103 =>
(aP a103 h101 fun pt104 =>
(((.pointer pt104) : Value) = (.pointer pt95)))) ∧
((onSome p11 fun a105 =>
(aP a105 h101 fun pt106 =>
(((.pointer pt106) : Value) = (.pointer pt93)))) ∧
(apA 3 24 #[(.int .i64 (0 : Int)),(.int .i64 (0 : Int)),(.int .i64 (0 : Int))] 26 s97 (Sl.mk (some (Addr.mk b100 0 none)) 1 1) h101 fun s107 h108 =>
((onSome p11 fun a109 =>
(aP a109 h108 fun pt110 =>
(((.pointer pt110) : Value) = (.pointer pt93)))) ∧
(onSome pt93 fun a111 =>
(aC (Addr.add a111 1) (.slice s107.a s107.len s107.cap) h108 fun h112 =>
(Q h112)))))))))))))))))
(Q h91))) ∧
(bsel b87
(R89 (n86 == (0 : Int)) h88)
(R89 false h88)))) h78))) h)))))))))))))))
def audit_looker_tables_1_M (f_qdg : qdg_T) : qdh_T := qdh_G f_qdg qdf_A qci_A
def qdh_W (f : qdh_T) : ArS [.c (.i .i64),.agg [.b,.b,.b,.b,.b,.b,.b,.b,(.i .i64)],.c .p,.c .p,.c .p,.c .p] EnR := fun p0 p1 p2 p3 p4 p5 p6 p7 p8 p9 p10 p11 p12 p13 K _Kp => f p0 p1 p2 p3 p4 p5 p6 p7 p8 p9 p10 p11 p12 p13 (K (.tuple #[]))
abbrev qdi_T := Option Addr→Int→Option Addr→Option Addr→Option Addr→Option Addr→(AH→Prop)→AP
def qdi_G (f_qdg : qdg_T) (f_qcl : qcl_T) (f_qcm : qcm_T) (f_qdh : qdh_T) (p0 : Option Addr) (p1 : Int) (p2 : Option Addr) (p3 : Option Addr) (p4 : Option Addr) (p5 : Option Addr) (Q : AH→Prop) (h : AH) : Prop :=
(∃ I1 : Int→Nat→AH→Prop,(∃ m2,I1 (0 : Int) m2 h) ∧ ∀ x5 : Int,∀ m2 h4,I1 x5 m2 h4 →
(bsel (decide (x5 < (512 : Int)))
(∃ R6 : AH→Prop,(∀ h25,R6 h25 →
(∃ m3,m3 < m2 ∧ I1 (IntKind.wrap .i64 (x5 + (1 : Int))) m3 h25)) ∧
(onSome p0 fun a7 =>
(aP a7 h4 fun pt8 =>
(onSome pt8 fun a9 =>
(aP a9 h4 fun pt10 =>
(f_qcl pt10 (IntKind.wrap .u64 ((IntKind.wrap .u64 ((IntKind.wrap .u64 p1) * (4096 : Int))) + (IntKind.wrap .u64 (IntKind.wrap .i64 ((8 : Int) * x5))))) (8 : Int) (fun n11 _ h13 =>
(f_qcm n11 (fun b14 b15 b16 b17 b18 b19 b20 b21 n22 h23 =>
(bsel b14
(f_qdh x5 b14 b15 b16 b17 b18 b19 b20 b21 n22 p2 p3 p4 p5 (fun h24 =>
(R6 h24)) h23)
(R6 h23))) h13)) h4))))))
(Q h4)))
def audit_looker_entries_s3_M (f_qdg : qdg_T) : qdi_T := qdi_G f_qdg qcl_A qcm_A (audit_looker_tables_1_M f_qdg)
def qdi_W (f : qdi_T) : ArS [.c .p,.c (.i .i64),.fn 60 [] [.p,.p,.p,.p]] EnR := fun p0 p1 p2 p3 p4 p5 K _Kp => f p0 p1 p2 p3 p4 p5 (K (.tuple #[]))
def qdg_G (f_qdi : qdi_T) (p0 : Option Addr) (p1 : Int) (p2 : Int) (p3 : Int) (p4 : Int) (Q : AH→Prop) (h : AH) : Prop :=
(newA h (.cells #[(.pointer p0)] 59) fun b1 h2 =>
(newA h2 (.cells #[(.int .i64 p1)] 3) fun b3 h4 =>
(newA h4 (.cells #[(.int .i64 p3)] 3) fun b5 h6 =>
(newA h6 (.cells #[(.int .i64 p4)] 3) fun b7 h8 =>
(aP (Addr.mk b1 0 none) h8 fun pt9 =>
(aP (Addr.mk b1 0 none) h8 fun pt10 =>
(onSome pt10 fun a11 =>
(aS (Addr.add a11 1) h8 fun s12 =>
(aI .i64 (Addr.mk b3 0 none) h8 fun n13 =>
(newA h8 (.cells #[(.int .i64 p2),(.int .i64 (2 : Int)),(.int .i64 n13)] 26) fun b14 h15 =>
((aS (Addr.add a11 1) h15 fun s16 =>
(((.slice s16.a s16.len s16.cap) : Value) = (.slice s12.a s12.len s12.cap))) ∧
((aP (Addr.mk b1 0 none) h15 fun pt17 =>
(((.pointer pt17) : Value) = (.pointer pt10))) ∧
((aP (Addr.mk b1 0 none) h15 fun pt18 =>
(((.pointer pt18) : Value) = (.pointer pt9))) ∧
(apA 3 24 #[(.int .i64 (0 : Int)),(.int .i64 (0 : Int)),(.int .i64 (0 : Int))] 26 s12 (Sl.mk (some (Addr.mk b14 0 none)) 1 1) h15 fun s19 h20 =>
((aP (Addr.mk b1 0 none) h20 fun pt21 =>
(((.pointer pt21) : Value) = (.pointer pt9))) ∧
(onSome pt9 fun a22 =>
(aC (Addr.add a22 1) (.slice s19.a s19.len s19.cap) h20 fun h23 =>
(aP (Addr.mk b1 0 none) h23 fun pt24 =>
(f_qdi pt24 p2 (some (Addr.mk b5 0 none)) (some (Addr.mk b1 0 none)) (some (Addr.mk b3 0 none)) (some (Addr.mk b7 0 none)) (fun h25 =>
(Q h25)) h23)))))))))))))))))))
def qdg_A : Nat→qdg_T
 | 0 => fun _ _ _ _ _ _ _ => False
 | k + 1 => qdg_G (audit_looker_entries_s3_M (qdg_A k))
def audit_looker_tables_R : qdg_T := fun x0 x1 x2 x3 x4 Q h => ∃ k,qdg_A k x0 x1 x2 x3 x4 Q h
abbrev qdj_T := Option Addr→(Sl→AH→Prop)→AP
def qdj_G (f_qay : qay_T) (f_qcw : qcw_T) (p0 : Option Addr) (Q : Sl→AH→Prop) (h : AH) : Prop :=
(f_qay p0 (fun s1 h2 =>
(f_qcw s1 (fun h3 =>
(Q s1 h3)) h2)) h)
def qdj_A : qdj_T := qdj_G qay_A qcw_A
def qdj_W (f : qdj_T) : ArS [.fn 104 [] [.p]] EnR := fun p0 K _Kp => f p0 (fun r0 => K (.slice r0.a r0.len r0.cap))
abbrev qdk_T := Option Addr→Int→(Sl→AH→Prop)→AP
def qdk_G (f_qax : qax_T) (f_qdj : qdj_T) (p0 : Option Addr) (p1 : Int) (Q : Sl→AH→Prop) (h : AH) : Prop :=
(bsel (decide (p1 < (0 : Int)))
(Q Sl.nil h)
(bsel (decide (p1 > (10 : Int)))
(Q Sl.nil h)
(onSome p0 fun a1 =>
(inB p1 11
(aM (Addr.add a1 (Int.toNat p1 * 1)) h fun mp2 =>
(f_qax mp2 (fun pt3 h4 =>
(f_qdj pt3 (fun s5 h6 =>
(Q s5 h6)) h4)) h))))))
def qdk_A : qdk_T := qdk_G qax_A qdj_A
def qdk_W (f : qdk_T) : ArS [.c .p,.c (.i .i64)] EnR := fun p0 p1 K _Kp => f p0 p1 (fun r0 => K (.slice r0.a r0.len r0.cap))
abbrev qdl_T := Sl→AP→AP
def qdl_A : qdl_T := soA useE (Go.Proofs.ltOf useCf) 3
def qdl_W (f : qdl_T) : ArS [.c .s,.fn 24 [] []] EnR := fun p0 K _Kp => f p0 (K (.tuple #[]))
abbrev qdm_T := Option Addr→(Sl→AH→Prop)→AP
def qdm_G (f_qcy : qcy_T) (f_qcz : qcz_T) (f_qde : qde_T) (f_qdg : qdg_T) (f_qdk : qdk_T) (f_qdl : qdl_T) (p0 : Option Addr) (Q : Sl→AH→Prop) (h : AH) : Prop :=
(newA h (.cells #[(.pointer p0),(.slice none 0 0)] 61) fun b1 h2 =>
(newA h2 (.cells #[(.pointer none)] 59) fun b3 h4 =>
(aC (Addr.mk b3 0 none) (.pointer (some (Addr.mk b1 0 none))) h4 fun h5 =>
(f_qcy p0 (fun s6 h7 =>
(∃ I8 : Int→Nat→AH→Prop,(∃ m9,I8 (0 : Int) m9 h7) ∧ ∀ x12 : Int,∀ m9 h11,I8 x12 m9 h11 →
(bsel (decide (x12 < (Int.ofNat s6.len)))
(onSome s6.a fun a13 =>
(inB x12 s6.len
(aI .i64 (Addr.add a13 (Int.toNat x12 * 1)) h11 fun n14 =>
(f_qcz p0 n14 (fun n15 _ h17 =>
(∃ R18 : AH→Prop,(∀ h21,R18 h21 →
(aP (Addr.mk b3 0 none) h21 fun pt22 =>
(f_qdg pt22 n14 n15 (4 : Int) (0 : Int) (fun h23 =>
(∃ m10,m10 < m9 ∧ I8 (IntKind.wrap .i64 (x12 + (1 : Int))) m10 h23)) h21))) ∧
(bsel (x12 == (0 : Int))
(aP (Addr.mk b3 0 none) h17 fun pt19 =>
(f_qde pt19 n15 (some (Addr.mk b3 0 none)) (fun h20 =>
(R18 h20)) h17))
(R18 h17)))) h11))))
(∃ I24 : Int→Nat→AH→Prop,(∃ m25,I24 (0 : Int) m25 h11) ∧ ∀ x28 : Int,∀ m25 h27,I24 x28 m25 h27 →
(bsel (decide (x28 < (11 : Int)))
(onSome p0 fun a29 =>
(aP (Addr.add a29 1) h27 fun pt30 =>
(f_qdk pt30 x28 (fun s31 h32 =>
(∃ I33 : Int→Nat→AH→Prop,(∃ m34,I33 (0 : Int) m34 h32) ∧ ∀ x37 : Int,∀ m34 h36,I33 x37 m34 h36 →
(bsel (decide (x37 < (Int.ofNat s31.len)))
(onSome s31.a fun a38 =>
(inB x37 s31.len
(aI .i64 (Addr.add a38 (Int.toNat x37 * 1)) h36 fun n39 =>
(bsel (decide (x28 < 0)) False
(∃ I40 : Int→Nat→AH→Prop,(∃ m41,I40 (0 : Int) m41 h36) ∧ ∀ x44 : Int,∀ m41 h43,I40 x44 m41 h43 →
(bsel (decide (x44 < (IntKind.wrap .i64 ((1 : Int) * 2 ^ (min (Int.toNat x28) 64)))))
(aP (Addr.mk b3 0 none) h43 fun pt45 =>
(aP (Addr.mk b3 0 none) h43 fun pt46 =>
(onSome pt46 fun a47 =>
(aS (Addr.add a47 1) h43 fun s48 =>
(newA h43 (.cells #[(.int .i64 (IntKind.wrap .i64 (n39 + x44))),(.int .i64 (0 : Int)),(.int .i64 (0 : Int))] 26) fun b49 h50 =>
((aS (Addr.add a47 1) h50 fun s51 =>
(((.slice s51.a s51.len s51.cap) : Value) = (.slice s48.a s48.len s48.cap))) ∧
((aP (Addr.mk b3 0 none) h50 fun pt52 =>
(((.pointer pt52) : Value) = (.pointer pt46))) ∧
((aP (Addr.mk b3 0 none) h50 fun pt53 =>
(((.pointer pt53) : Value) = (.pointer pt45))) ∧
(apA 3 24 #[(.int .i64 (0 : Int)),(.int .i64 (0 : Int)),(.int .i64 (0 : Int))] 26 s48 (Sl.mk (some (Addr.mk b49 0 none)) 1 1) h50 fun s54 h55 =>
((aP (Addr.mk b3 0 none) h55 fun pt56 =>
(((.pointer pt56) : Value) = (.pointer pt45))) ∧
(onSome pt45 fun a57 =>
(aC (Addr.add a57 1) (.slice s54.a s54.len s54.cap) h55 fun h58 =>
(∃ m42,m42 < m41 ∧ I40 (IntKind.wrap .i64 (x44 + (1 : Int))) m42 h58)))))))))))))
(∃ m35,m35 < m34 ∧ I33 (IntKind.wrap .i64 (x37 + (1 : Int))) m35 h43)))))))
(∃ m26,m26 < m25 ∧ I24 (IntKind.wrap .i64 (x28 + (1 : Int))) m26 h36)))) h27)))
(aP (Addr.mk b3 0 none) h27 fun pt59 =>
(onSome pt59 fun a60 =>
(aS (Addr.add a60 1) h27 fun s61 =>
(f_qdl s61 (fun h62 =>
(aP (Addr.mk b3 0 none) h62 fun pt63 =>
(onSome pt63 fun a64 =>
(aS (Addr.add a64 1) h62 fun s65 =>
(Q s65 h62))))) h27))))))))) h5))))
def qdm_A : qdm_T := qdm_G qcy_A qcz_A qde_A audit_looker_tables_R qdk_A qdl_A
def qdm_W (f : qdm_T) : ArS [.c .p] EnR := fun p0 K _Kp => f p0 (fun r0 => K (.slice r0.a r0.len r0.cap))
abbrev qdn_T := Sl→(Int→Int→Int→Int→AH→Prop)→AP
def qdn_A (p0 : Sl) (Q : Int→Int→Int→Int→AH→Prop) (h : AH) : Prop :=
(newA h (.cells #[(.int .i64 (0 : Int)),(.int .i64 (0 : Int)),(.int .i64 (0 : Int)),(.int .i64 (0 : Int))] 23) fun b1 h2 =>
(∃ I3 : Int→Nat→AH→Prop,(∃ m4,I3 (0 : Int) m4 h2) ∧ ∀ x7 : Int,∀ m4 h6,I3 x7 m4 h6 →
(bsel (decide (x7 < (Int.ofNat p0.len)))
(onSome p0.a fun a8 =>
(inB x7 p0.len
(aI .i64 (Addr.add a8 (Int.toNat x7 * 3)) h6 fun _ =>
(aI .i64 (Addr.add (Addr.add a8 (Int.toNat x7 * 3)) 1) h6 fun n10 =>
(aI .i64 (Addr.add (Addr.add a8 (Int.toNat x7 * 3)) 2) h6 fun _ =>
(inB (bits .and .i64 n10 (3 : Int)) 4
(aI .i64 (Addr.add (Addr.mk b1 0 none) (Int.toNat (bits .and .i64 n10 (3 : Int)) * 1)) h6 fun n12 =>
(inB (bits .and .i64 n10 (3 : Int)) 4
(aC (Addr.add (Addr.mk b1 0 none) (Int.toNat (bits .and .i64 n10 (3 : Int)) * 1)) (.int .i64 (IntKind.wrap .i64 (n12 + (1 : Int)))) h6 fun h13 =>
(∃ m5,m5 < m4 ∧ I3 (IntKind.wrap .i64 (x7 + (1 : Int))) m5 h13))))))))))
(aI .i64 (Addr.mk b1 0 none) h6 fun n14 =>
(aI .i64 (Addr.add (Addr.mk b1 0 none) 1) h6 fun n15 =>
(aI .i64 (Addr.add (Addr.mk b1 0 none) 2) h6 fun n16 =>
(aI .i64 (Addr.add (Addr.mk b1 0 none) 3) h6 fun n17 =>
(Q n14 n15 n16 n17 h6))))))))
def qdn_W (f : qdn_T) : ArS [.c .s] EnR := fun p0 K _Kp => f p0 (fun r0 r1 r2 r3 => K (.agg #[(.int .i64 r0),(.int .i64 r1),(.int .i64 r2),(.int .i64 r3)]))
abbrev qdo_T := Option Nat→(Option Addr→AH→Prop)→AP
def qdo_A (p0 : Option Nat) (Q : Option Addr→AH→Prop) (h : AH) : Prop :=
(newA h (.cells #[(.map p0)] 96) fun b1 h2 =>
(Q (some (Addr.mk b1 0 none)) h2))
def qdo_W (f : qdo_T) : ArS [.c .m] EnR := fun p0 K _Kp => f p0 (fun r0 => K (.func (.func 115) #[] #[(.pointer r0)]))
abbrev qdp_T := Option Addr→(Sl→AH→Prop)→AP
def qdp_A : qdp_T := clA 3
def qdp_W (f : qdp_T) : ArS [.fn 115 [] [.p]] EnR := fun p0 K _Kp => f p0 (fun r0 => K (.slice r0.a r0.len r0.cap))
abbrev qdq_T := Option Addr→(Sl→AH→Prop)→AP
def qdq_G (f_qdp : qdp_T) (f_qcw : qcw_T) (p0 : Option Addr) (Q : Sl→AH→Prop) (h : AH) : Prop :=
(f_qdp p0 (fun s1 h2 =>
(f_qcw s1 (fun h3 =>
(Q s1 h3)) h2)) h)
def qdq_A : qdq_T := qdq_G qdp_A qcw_A
def qdq_W (f : qdq_T) : ArS [.fn 115 [] [.p]] EnR := fun p0 K _Kp => f p0 (fun r0 => K (.slice r0.a r0.len r0.cap))
abbrev qdr_T := Option Addr→(Sl→AH→Prop)→AP
def qdr_G (f_qdo : qdo_T) (f_qdq : qdq_T) (p0 : Option Addr) (Q : Sl→AH→Prop) (h : AH) : Prop :=
(onSome p0 fun a1 =>
(aM (Addr.add a1 11) h fun mp2 =>
(f_qdo mp2 (fun pt3 h4 =>
(f_qdq pt3 (fun s5 h6 =>
(Q s5 h6)) h4)) h)))
def qdr_A : qdr_T := qdr_G qdo_A qdq_A
def qdr_W (f : qdr_T) : ArS [.c .p] EnR := fun p0 K _Kp => f p0 (fun r0 => K (.slice r0.a r0.len r0.cap))
abbrev qds_T := Option Addr→Int→(Int→AH→Prop)→AP
def qds_A (p0 : Option Addr) (p1 : Int) (Q : Int→AH→Prop) (h : AH) : Prop :=
(onSome p0 fun a1 =>
(aM (Addr.add a1 11) h fun mp2 =>
(aLk h mp2 .i64 p1 fun o3 =>
(∃ n4 : Int,((o3.getD (.int .i64 (0 : Int))) : Value) = (.int .i64 n4) ∧
(bsel o3.isSome
(Q n4 h)
(Q (-1 : Int) h))))))
def qds_W (f : qds_T) : ArS [.c .p,.c (.i .i64)] EnR := fun p0 p1 K _Kp => f p0 p1 (fun r0 => K (.int .i64 r0))
abbrev qdt_T := Option Addr→(Sl→AH→Prop)→AP
def qdt_A (p0 : Option Addr) (Q : Sl→AH→Prop) (h : AH) : Prop :=
(onSome p0 fun a1 =>
(aS a1 h fun s2 =>
(∃ I3 : Sl→Int→Nat→AH→Prop,(∃ m4,I3 Sl.nil (0 : Int) m4 h) ∧ ∀ s7 : Sl,∀ x8 : Int,∀ m4 h6,I3 s7 x8 m4 h6 →
(bsel (decide (x8 < (Int.ofNat s2.len)))
(∃ R9 : Sl→AH→Prop,(∀ s20 : Sl,∀ h21,R9 s20 h21 →
(∃ m5,m5 < m4 ∧ I3 s20 (IntKind.wrap .i64 (x8 + (1 : Int))) m5 h21)) ∧
(onSome s2.a fun a10 =>
(inB x8 s2.len
(aI .i64 (Addr.add a10 (Int.toNat x8 * 5)) h6 fun _ =>
(aI .i64 (Addr.add (Addr.add a10 (Int.toNat x8 * 5)) 1) h6 fun _ =>
(aI .i64 (Addr.add (Addr.add a10 (Int.toNat x8 * 5)) 2) h6 fun _ =>
(aI .i64 (Addr.add (Addr.add a10 (Int.toNat x8 * 5)) 3) h6 fun _ =>
(aB (Addr.add (Addr.add a10 (Int.toNat x8 * 5)) 4) h6 fun b15 =>
(bsel b15
(newA h6 (.cells #[(.int .i64 x8)] 3) fun b16 h17 =>
(apA 1 8 #[(.int .i64 (0 : Int))] 3 s7 (Sl.mk (some (Addr.mk b16 0 none)) 1 1) h17 fun s18 h19 =>
(R9 s18 h19)))
(R9 s7 h6))))))))))
(Q s7 h6)))))
def qdt_W (f : qdt_T) : ArS [.c .p] EnR := fun p0 K _Kp => f p0 (fun r0 => K (.slice r0.a r0.len r0.cap))
abbrev qdu_T := Option Addr→Int→(Int→Int→Int→Int→Bool→Bool→AH→Prop)→AP
def qdu_G (f_qau : qau_T) (p0 : Option Addr) (p1 : Int) (Q : Int→Int→Int→Int→Bool→Bool→AH→Prop) (h : AH) : Prop :=
(f_qau p0 p1 (fun pt1 b2 h3 =>
(bsel b2
(onSome pt1 fun a4 =>
(aI .i64 a4 h3 fun n5 =>
(aI .i64 (Addr.add a4 1) h3 fun n6 =>
(aI .i64 (Addr.add a4 2) h3 fun n7 =>
(aI .i64 (Addr.add a4 3) h3 fun n8 =>
(aB (Addr.add a4 4) h3 fun b9 =>
(Q n5 n6 n7 n8 b9 true h3)))))))
(Q (0 : Int) (0 : Int) (0 : Int) (0 : Int) (false : Bool) false h3))) h)
def qdu_A : qdu_T := qdu_G qau_A
def qdu_W (f : qdu_T) : ArS [.c .p,.c (.i .i64)] EnR := fun p0 p1 K _Kp => f p0 p1 (fun r0 r1 r2 r3 r4 r5 => K (.tuple #[(.agg #[(.int .i64 r0),(.int .i64 r1),(.int .i64 r2),(.int .i64 r3),(.bool r4)]),(.bool r5)]))
abbrev qdv_T := Option Addr→(Int→AH→Prop)→AP
def qdv_G (f_qdm : qdm_T) (f_qdn : qdn_T) (f_qdr : qdr_T) (f_qds : qds_T) (f_qcy : qcy_T) (f_qdt : qdt_T) (f_qdu : qdu_T) (p0 : Option Addr) (Q : Int→AH→Prop) (h : AH) : Prop :=
(f_qdm p0 (fun s1 h2 =>
(∃ I3 : Int→Nat→AH→Prop,(∃ m4,I3 (1 : Int) m4 h2) ∧ ∀ x7 : Int,∀ m4 h6,I3 x7 m4 h6 →
(bsel (decide (x7 < (Int.ofNat s1.len)))
(onSome s1.a fun a8 =>
(inB x7 s1.len
(aI .i64 (Addr.add a8 (Int.toNat x7 * 3)) h6 fun n9 =>
(onSome s1.a fun a10 =>
(inB (IntKind.wrap .i64 (x7 - (1 : Int))) s1.len
(aI .i64 (Addr.add a10 (Int.toNat (IntKind.wrap .i64 (x7 - (1 : Int))) * 3)) h6 fun n11 =>
(bsel (n9 == n11)
(Q (6 : Int) h6)
(∃ m5,m5 < m4 ∧ I3 (IntKind.wrap .i64 (x7 + (1 : Int))) m5 h6))))))))
(f_qdn s1 (fun _ n13 n14 n15 h16 =>
(onSome p0 fun a17 =>
(aP (Addr.add a17 1) h16 fun pt18 =>
(f_qdr pt18 (fun s19 h20 =>
(∃ I21 : Int→Int→Nat→AH→Prop,(∃ m22,I21 (0 : Int) (0 : Int) m22 h20) ∧ ∀ x25 : Int,∀ x26 : Int,∀ m22 h24,I21 x25 x26 m22 h24 →
(bsel (decide (x26 < (Int.ofNat s19.len)))
(onSome s19.a fun a27 =>
(inB x26 s19.len
(aI .i64 (Addr.add a27 (Int.toNat x26 * 1)) h24 fun n28 =>
(onSome p0 fun a29 =>
(aP (Addr.add a29 1) h24 fun pt30 =>
(f_qds pt30 n28 (fun n31 h32 =>
(bsel (decide (n31 < 0)) False
(∃ m23,m23 < m22 ∧ I21 (IntKind.wrap .i64 (x25 + (IntKind.wrap .i64 ((1 : Int) * 2 ^ (min (Int.toNat n31) 64))))) (IntKind.wrap .i64 (x26 + (1 : Int))) m23 h32))) h24))))))
(∃ R33 : AH→Prop,(∀ h36,R33 h36 →
(onSome p0 fun a37 =>
(aP (Addr.add a37 2) h36 fun pt38 =>
(f_qdt pt38 (fun s39 h40 =>
(∃ I41 : Int→Int→Nat→AH→Prop,(∃ m42,I41 (0 : Int) (0 : Int) m42 h40) ∧ ∀ x45 : Int,∀ x46 : Int,∀ m42 h44,I41 x45 x46 m42 h44 →
(bsel (decide (x46 < (Int.ofNat s39.len)))
(onSome s39.a fun a47 =>
(inB x46 s39.len
(aI .i64 (Addr.add a47 (Int.toNat x46 * 1)) h44 fun n48 =>
(onSome p0 fun a49 =>
(aP (Addr.add a49 2) h44 fun pt50 =>
(f_qdu pt50 n48 (fun _ _ n53 _ _ _ h57 =>
(∃ m43,m43 < m42 ∧ I41 (IntKind.wrap .i64 (x45 + n53)) (IntKind.wrap .i64 (x46 + (1 : Int))) m43 h57)) h44))))))
(bsel (x45 != x25)
(Q (8 : Int) h44)
(Q (0 : Int) h44))))) h36)))) ∧
(f_qcy p0 (fun s34 h35 =>
(bsel (decide ((Int.ofNat s34.len) > (0 : Int)))
(bsel (x25 != (IntKind.wrap .i64 ((IntKind.wrap .i64 (n13 + n14)) + n15)))
(Q (5 : Int) h35)
(R33 h35))
(R33 h35))) h24))))) h16)))) h6)))) h)
def qdv_A : qdv_T := qdv_G qdm_A qdn_A qdr_A qds_A qcy_A qdt_A qdu_A
def qdv_W (f : qdv_T) : ArS [.c .p] EnR := fun p0 K _Kp => f p0 (fun r0 => K (.int .i64 r0))
abbrev qdw_T := (Bool→AH→Prop)→AP
def qdw_G (f_qbs : qbs_T) (f_qbu : qbu_T) (f_qch : qch_T) (f_qct : qct_T) (f_qdm : qdm_T) (f_qdn : qdn_T) (f_qdv : qdv_T) (Q : Bool→AH→Prop) (h : AH) : Prop :=
(f_qbs (40 : Int) (5 : Int) (fun pt1 _ _ _ b5 h6 =>
(bsel (!b5)
(Q false h6)
(f_qbu pt1 (1 : Int) (0 : Int) (fun n7 h8 =>
(bsel (n7 != (0 : Int))
(Q false h8)
(f_qch pt1 (1 : Int) (0 : Int) (4 : Int) true true false (fun n9 h10 =>
(bsel (n9 != (0 : Int))
(Q false h10)
(f_qct pt1 (1 : Int) (2 : Int) false false false (fun _ _ n13 h14 =>
(bsel (n13 == (0 : Int))
(f_qdm pt1 (fun s15 h16 =>
(f_qdn s15 (fun n17 n18 n19 n20 h21 =>
(bsel ((n17 == (32 : Int)) && ((n18 == (2 : Int)) && ((n19 == (4 : Int)) && ((n20 == (1 : Int)) && true))))
(f_qdv pt1 (fun n22 h23 =>
(Q (n22 == (0 : Int)) h23)) h21)
(Q false h21))) h16)) h14)
(Q false h14))) h10))) h8))) h6))) h)
def qdw_A : qdw_T := qdw_G qbs_A qbu_A qch_A qct_A qdm_A qdn_A qdv_A
def qdw_W (f : qdw_T) : ArS [] EnR := fun  K _Kp => f  (fun r0 => K (.bool r0))
abbrev qdx_T := Int→Int→Bool→Bool→Bool→Int→Option Addr→(Bool→AH→Prop)→AP
def qdx_A (p0 : Int) (p1 : Int) (_p2 : Bool) (_p3 : Bool) (_p4 : Bool) (p5 : Int) (p6 : Option Addr) (Q : Bool→AH→Prop) (h : AH) : Prop :=
(bsel (p5 == (1 : Int))
(onSome p6 fun a1 =>
(aI .i64 (Addr.add a1 1) h fun n2 =>
(bsel (decide (p0 < n2))
(onSome p6 fun a3 =>
(aI .i64 a3 h fun n4 =>
(Q (decide (n4 < p1)) h)))
(Q false h))))
(Q false h))
def qdx_W (f : qdx_T) : ArS [.agg [(.i .i64),(.i .i64),.b,.b,.b,(.i .i64)],.c .p] EnR := fun p0 p1 p2 p3 p4 p5 p6 K _Kp => f p0 p1 p2 p3 p4 p5 p6 (fun r0 => K (.bool r0))
abbrev qdy_T := Sl→Option Addr→(Int→AH→Prop)→AP
def qdy_G (f_qdx : qdx_T) (p0 : Sl) (p1 : Option Addr) (Q : Int→AH→Prop) (h : AH) : Prop :=
(∃ I1 : Int→Nat→AH→Prop,(∃ m2,I1 (0 : Int) m2 h) ∧ ∀ x5 : Int,∀ m2 h4,I1 x5 m2 h4 →
(bsel (decide (x5 < (Int.ofNat p0.len)))
(onSome p0.a fun a6 =>
(inB x5 p0.len
(aI .i64 (Addr.add a6 (Int.toNat x5 * 6)) h4 fun n7 =>
(aI .i64 (Addr.add (Addr.add a6 (Int.toNat x5 * 6)) 1) h4 fun n8 =>
(aB (Addr.add (Addr.add a6 (Int.toNat x5 * 6)) 2) h4 fun b9 =>
(aB (Addr.add (Addr.add a6 (Int.toNat x5 * 6)) 3) h4 fun b10 =>
(aB (Addr.add (Addr.add a6 (Int.toNat x5 * 6)) 4) h4 fun b11 =>
(aI .i64 (Addr.add (Addr.add a6 (Int.toNat x5 * 6)) 5) h4 fun n12 =>
(f_qdx n7 n8 b9 b10 b11 n12 p1 (fun b13 h14 =>
(bsel b13
(Q x5 h14)
(∃ m3,m3 < m2 ∧ I1 (IntKind.wrap .i64 (x5 + (1 : Int))) m3 h14))) h4)))))))))
(Q (-1 : Int) h4)))
def qdy_A : qdy_T := qdy_G qdx_A
def qdy_W (f : qdy_T) : ArS [.c .s,.fn 70 [] [.p]] EnR := fun p0 p1 K _Kp => f p0 p1 (fun r0 => K (.int .i64 r0))
abbrev qdz_T := Sl→Option Addr→(Bool→AH→Prop)→AP
def qdz_G (f_qdy : qdy_T) (p0 : Sl) (p1 : Option Addr) (Q : Bool→AH→Prop) (h : AH) : Prop :=
(f_qdy p0 p1 (fun n1 h2 =>
(Q (decide (n1 ≥ (0 : Int))) h2)) h)
def qdz_A : qdz_T := qdz_G qdy_A
def qdz_W (f : qdz_T) : ArS [.c .s,.fn 70 [] [.p]] EnR := fun p0 p1 K _Kp => f p0 p1 (fun r0 => K (.bool r0))
abbrev qea_T := Option Addr→Int→Int→(Bool→AH→Prop)→AP
def qea_G (f_qdz : qdz_T) (p0 : Option Addr) (p1 : Int) (p2 : Int) (Q : Bool→AH→Prop) (h : AH) : Prop :=
(newA h (.cells #[(.int .i64 p1),(.int .i64 p2)] 44) fun b1 h2 =>
(onSome p0 fun a3 =>
(aM (Addr.add a3 3) h2 fun mp4 =>
(rgA h2 mp4 fun a5 h6 =>
(∃ I7 : Nat→AH→Prop,(∃ m8,I7 m8 h6) ∧ ∀ m8 h10,I7 m8 h10 →
(aNx h10 a5 (fun h15 =>
(onSome p0 fun a16 =>
(aS (Addr.add a16 2) h15 fun s17 =>
(f_qdz s17 (some (Addr.mk b1 0 none)) (fun b18 h19 =>
(Q b18 h19)) h15)))) fun k11 _ h14 =>
∃ n13 : Int,(k11 : Value) = (.int .i64 n13) ∧
(aEy h14 a5 fun n20 _ =>
(aI .i64 (Addr.mk b1 0 none) h14 fun n22 =>
(bsel (decide (n20 ≥ n22))
(aI .i64 (Addr.add (Addr.mk b1 0 none) 1) h14 fun n23 =>
(bsel (decide (n20 < n23))
(Q true h14)
(∃ m9,m9 < m8 ∧ I7 m9 h14)))
(∃ m9,m9 < m8 ∧ I7 m9 h14))))))))))
def qea_A : qea_T := qea_G qdz_A
def qea_W (f : qea_T) : ArS [.c .p,.agg [(.i .i64),(.i .i64)]] EnR := fun p0 p1 p2 K _Kp => f p0 p1 p2 (fun r0 => K (.bool r0))
abbrev qeb_T := Int→Option Addr→(AH→Prop)→AP
def qeb_A (p0 : Int) (p1 : Option Addr) (Q : AH→Prop) (h : AH) : Prop :=
(onSome p1 fun a1 =>
(aS a1 h fun s2 =>
(newA h (.cells #[(.int .i64 p0)] 3) fun b3 h4 =>
(apA 1 8 #[(.int .i64 (0 : Int))] 3 s2 (Sl.mk (some (Addr.mk b3 0 none)) 1 1) h4 fun s5 h6 =>
(onSome p1 fun a7 =>
(aC a7 (.slice s5.a s5.len s5.cap) h6 fun h8 =>
(Q h8)))))))
def qeb_W (f : qeb_T) : ArS [.c (.i .i64),.c .p] EnR := fun p0 p1 K _Kp => f p0 p1 (K (.tuple #[]))
abbrev qec_T := Option Addr→Option Addr→Option Addr→Int→Int→Int→Int→Option Addr→(AH→Prop)→AP
def qec_G (f_self : qec_T) (f_qcn : qcn_T) (f_qeb : qeb_T) (p0 : Option Addr) (p1 : Option Addr) (p2 : Option Addr) (p3 : Int) (p4 : Int) (p5 : Int) (p6 : Int) (p7 : Option Addr) (Q : AH→Prop) (h : AH) : Prop :=
(∃ I1 : Int→Nat→AH→Prop,(∃ m2,I1 (0 : Int) m2 h) ∧ ∀ x5 : Int,∀ m2 h4,I1 x5 m2 h4 →
(bsel (decide (x5 < (512 : Int)))
(∃ R6 : AH→Prop,(∀ h21,R6 h21 →
(∃ m3,m3 < m2 ∧ I1 (IntKind.wrap .i64 (x5 + (1 : Int))) m3 h21)) ∧
(∃ R7 : AH→Prop,(∀ h8,R7 h8 →
(f_qcn p0 p1 p2 p3 p4 x5 (fun b9 _ _ _ _ _ _ _ n17 h18 =>
(bsel (!b9)
(R6 h18)
(bsel (p5 == (1 : Int))
(f_qeb (bits .or .i64 (IntKind.wrap .i64 (p6 * 2 ^ (9 : Nat))) x5) p7 (fun h19 =>
(R6 h19)) h18)
(f_self p0 p1 p2 p3 n17 (IntKind.wrap .i64 (p5 - (1 : Int))) (bits .or .i64 (IntKind.wrap .i64 (p6 * 2 ^ (9 : Nat))) x5) p7 (fun h20 =>
(R6 h20)) h18)))) h8)) ∧
(bsel (p5 == (4 : Int))
(bsel (decide (x5 ≥ (256 : Int)))
(Q h4)
(R7 h4))
(R7 h4))))
(Q h4)))
def qec_A : Nat→qec_T
 | 0 => fun _ _ _ _ _ _ _ _ _ _ => False
 | k + 1 => qec_G (qec_A k) qcn_A qeb_A
def table_Purse_walk_R : qec_T := fun x0 x1 x2 x3 x4 x5 x6 x7 Q h => ∃ k,qec_A k x0 x1 x2 x3 x4 x5 x6 x7 Q h
def qec_W (f : qec_T) : ArS [.agg [.p,.p,.p,(.i .i64)],.c (.i .i64),.c (.i .i64),.c (.i .i64),.fn 72 [] [.p]] EnR := fun p0 p1 p2 p3 p4 p5 p6 p7 K _Kp => f p0 p1 p2 p3 p4 p5 p6 p7 (K (.tuple #[]))
abbrev qed_T := Option Addr→Option Addr→Option Addr→Int→Int→(Sl→AH→Prop)→AP
def qed_G (f_qec : qec_T) (p0 : Option Addr) (p1 : Option Addr) (p2 : Option Addr) (p3 : Int) (p4 : Int) (Q : Sl→AH→Prop) (h : AH) : Prop :=
(newA h (.cells #[(.slice none 0 0)] 62) fun b1 h2 =>
(f_qec p0 p1 p2 p3 p4 (4 : Int) (0 : Int) (some (Addr.mk b1 0 none)) (fun h3 =>
(aS (Addr.mk b1 0 none) h3 fun s4 =>
(Q s4 h3))) h2))
def qed_A : qed_T := qed_G table_Purse_walk_R
def qed_W (f : qed_T) : ArS [.agg [.p,.p,.p,(.i .i64)],.c (.i .i64)] EnR := fun p0 p1 p2 p3 p4 K _Kp => f p0 p1 p2 p3 p4 (fun r0 => K (.slice r0.a r0.len r0.cap))
abbrev qee_T := Option Addr→Int→(Bool→AH→Prop)→AP
def qee_A (p0 : Option Addr) (p1 : Int) (Q : Bool→AH→Prop) (h : AH) : Prop :=
(onSome p0 fun a1 =>
(aM (Addr.add a1 2) h fun mp2 =>
(aLk h mp2 .i64 p1 fun o3 =>
(∃ pt4 : Option Addr,((o3.getD (.pointer none)) : Value) = (.pointer pt4) ∧
(bsel pt4.isNone
(Q true h)
(onSome pt4 fun a5 =>
(aRow 4096 a5 h fun r6 =>
(eqBy r6 (Array.replicate 4096 (.int .u8 (0 : Int))) 4096 fun b7 =>
(Q b7 h)))))))))
def qee_W (f : qee_T) : ArS [.c .p,.c (.i .i64)] EnR := fun p0 p1 K _Kp => f p0 p1 (fun r0 => K (.bool r0))
abbrev qef_T := Option Addr→Option Addr→Option Addr→Int→Int→Int→(Int→Int→AH→Prop)→AP
def qef_G (f_qcp : qcp_T) (f_qck : qck_T) (f_qco : qco_T) (f_qbl : qbl_T) (f_qbo : qbo_T) (f_qee : qee_T) (f_qbh : qbh_T) (p0 : Option Addr) (p1 : Option Addr) (p2 : Option Addr) (p3 : Int) (p4 : Int) (p5 : Int) (Q : Int→Int→AH→Prop) (h : AH) : Prop :=
(f_qcp p0 p1 p2 p3 p4 p5 (fun n1 _ _ _ b5 h6 =>
(bsel (!b5)
(Q (0 : Int) (5 : Int) h6)
(f_qck p5 (fun n7 n8 n9 n10 h11 =>
(f_qco p0 p1 p2 p3 p4 p5 (fun s12 h13 =>
(newA h13 (.cells #[(.int .i64 (0 : Int)),(.int .i64 (0 : Int)),(.int .i64 (0 : Int)),(.int .i64 (0 : Int))] 23) fun b14 h15 =>
(aC (Addr.mk b14 0 none) (.int .i64 n7) h15 fun h16 =>
(aC (Addr.add (Addr.mk b14 0 none) 1) (.int .i64 n8) h16 fun h17 =>
(aC (Addr.add (Addr.mk b14 0 none) 2) (.int .i64 n9) h17 fun h18 =>
(aC (Addr.add (Addr.mk b14 0 none) 3) (.int .i64 n10) h18 fun h19 =>
(onSome s12.a fun a20 =>
(inB (3 : Int) s12.len
(aI .i64 (Addr.add a20 3) h19 fun n21 =>
(aI .i64 (Addr.add (Addr.mk b14 0 none) 3) h19 fun n22 =>
(f_qbl n21 n22 (fun n23 h24 =>
(f_qbo p0 n23 (8 : Int) (0 : Int) (fun _ h26 =>
(∃ I27 : Int→Nat→AH→Prop,(∃ m28,I27 (3 : Int) m28 h26) ∧ ∀ x31 : Int,∀ m28 h30,I27 x31 m28 h30 →
(bsel (decide (x31 > (0 : Int)))
(onSome s12.a fun a32 =>
(inB x31 s12.len
(aI .i64 (Addr.add a32 (Int.toNat x31 * 1)) h30 fun n33 =>
(f_qee p0 n33 (fun b34 h35 =>
(bsel b34
(onSome s12.a fun a36 =>
(inB (IntKind.wrap .i64 (x31 - (1 : Int))) s12.len
(inB (IntKind.wrap .i64 (x31 - (1 : Int))) 4
(aI .i64 (Addr.add a36 (Int.toNat (IntKind.wrap .i64 (x31 - (1 : Int))) * 1)) h35 fun n37 =>
(aI .i64 (Addr.add (Addr.mk b14 0 none) (Int.toNat (IntKind.wrap .i64 (x31 - (1 : Int))) * 1)) h35 fun n38 =>
(f_qbl n37 n38 (fun n39 h40 =>
(f_qbo p0 n39 (8 : Int) (0 : Int) (fun _ h42 =>
(onSome s12.a fun a43 =>
(inB x31 s12.len
(aI .i64 (Addr.add a43 (Int.toNat x31 * 1)) h42 fun n44 =>
(f_qbh p0 p1 p2 p3 n44 (fun h45 =>
(∃ m29,m29 < m28 ∧ I27 (IntKind.wrap .i64 (x31 - (1 : Int))) m29 h45)) h42))))) h40)) h35))))))
(Q n1 (0 : Int) h35))) h30))))
(Q n1 (0 : Int) h30)))) h24)) h19))))))))))) h11)) h6))) h)
def qef_A : qef_T := qef_G qcp_A qck_A qco_A qbl_A qbo_A qee_A qbh_A
def qef_W (f : qef_T) : ArS [.agg [.p,.p,.p,(.i .i64)],.c (.i .i64),.c (.i .i64)] EnR := fun p0 p1 p2 p3 p4 p5 K _Kp => f p0 p1 p2 p3 p4 p5 (fun r0 r1 => K (.tuple #[(.int .i64 r0),(.int .i64 r1)]))
abbrev qeg_T := Option Addr→Int→(Int→Bool→AH→Prop)→AP
def qeg_A (p0 : Option Addr) (p1 : Int) (Q : Int→Bool→AH→Prop) (h : AH) : Prop :=
(onSome p0 fun a1 =>
(aM (Addr.add a1 4) h fun mp2 =>
(aLk h mp2 .i64 p1 fun o3 =>
(∃ n4 : Int,((o3.getD (.int .i64 (0 : Int))) : Value) = (.int .i64 n4) ∧
(Q n4 o3.isSome h)))))
def qeg_W (f : qeg_T) : ArS [.c .p,.c (.i .i64)] EnR := fun p0 p1 K _Kp => f p0 p1 (fun r0 r1 => K (.tuple #[(.int .i64 r0),(.bool r1)]))
abbrev qeh_T := Bool→Int→Int→Int→Bool→Bool→Bool→Bool→Bool→Int→Int→(Bool→AH→Prop)→AP
def qeh_A (p0 : Bool) (p1 : Int) (p2 : Int) (_p3 : Int) (_p4 : Bool) (_p5 : Bool) (_p6 : Bool) (p7 : Bool) (_p8 : Bool) (p9 : Int) (p10 : Int) (Q : Bool→AH→Prop) (h : AH) : Prop :=
(bsel p0
(bsel (p2 == p10)
(bsel (p1 == p9)
(Q true h)
(Q p7 h))
(Q false h))
(Q false h))
def qeh_W (f : qeh_T) : ArS [.agg [.b,(.i .i64),(.i .i64),(.i .i64),.b,.b,.b,.b,.b],.c (.i .i64),.c (.i .i64)] EnR := fun p0 p1 p2 p3 p4 p5 p6 p7 p8 p9 p10 K _Kp => f p0 p1 p2 p3 p4 p5 p6 p7 p8 p9 p10 (fun r0 => K (.bool r0))
abbrev qei_T := Bool→Int→Int→Int→Bool→Bool→Bool→Bool→Bool→Option Addr→Option Addr→(Bool→AH→Prop)→AP
def qei_G (f_qeh : qeh_T) (p0 : Bool) (p1 : Int) (p2 : Int) (p3 : Int) (p4 : Bool) (p5 : Bool) (p6 : Bool) (p7 : Bool) (p8 : Bool) (p9 : Option Addr) (p10 : Option Addr) (Q : Bool→AH→Prop) (h : AH) : Prop :=
(onSome p9 fun a1 =>
(aI .i64 a1 h fun n2 =>
(onSome p10 fun a3 =>
(aI .i64 a3 h fun n4 =>
(f_qeh p0 p1 p2 p3 p4 p5 p6 p7 p8 n2 n4 (fun b5 h6 =>
(Q b5 h6)) h)))))
def qei_A : qei_T := qei_G qeh_A
def qei_W (f : qei_T) : ArS [.agg [.b,(.i .i64),(.i .i64),(.i .i64),.b,.b,.b,.b,.b],.c .p,.c .p] EnR := fun p0 p1 p2 p3 p4 p5 p6 p7 p8 p9 p10 K _Kp => f p0 p1 p2 p3 p4 p5 p6 p7 p8 p9 p10 (fun r0 => K (.bool r0))
abbrev qej_T := Option Addr→Option Addr→Option Addr→(AH→Prop)→AP
def qej_G (f_qei : qei_T) (p0 : Option Addr) (p1 : Option Addr) (p2 : Option Addr) (Q : AH→Prop) (h : AH) : Prop :=
(∃ I1 : Int→Nat→AH→Prop,(∃ m2,I1 (0 : Int) m2 h) ∧ ∀ x5 : Int,∀ m2 h4,I1 x5 m2 h4 →
(bsel (decide (x5 < (8 : Int)))
(∃ I6 : Int→Nat→AH→Prop,(∃ m7,I6 (0 : Int) m7 h4) ∧ ∀ x10 : Int,∀ m7 h9,I6 x10 m7 h9 →
(bsel (decide (x10 < (2 : Int)))
(∃ R11 : AH→Prop,(∀ h34,R11 h34 →
(∃ m8,m8 < m7 ∧ I6 (IntKind.wrap .i64 (x10 + (1 : Int))) m8 h34)) ∧
(onSome p0 fun a12 =>
(inB x5 8
(inB x10 2
(aB (Addr.add (Addr.add a12 (Int.toNat x5 * 18)) (Int.toNat x10 * 9)) h9 fun b13 =>
(aI .i64 (Addr.add (Addr.add (Addr.add a12 (Int.toNat x5 * 18)) (Int.toNat x10 * 9)) 1) h9 fun n14 =>
(aI .i64 (Addr.add (Addr.add (Addr.add a12 (Int.toNat x5 * 18)) (Int.toNat x10 * 9)) 2) h9 fun n15 =>
(aI .i64 (Addr.add (Addr.add (Addr.add a12 (Int.toNat x5 * 18)) (Int.toNat x10 * 9)) 3) h9 fun n16 =>
(aB (Addr.add (Addr.add (Addr.add a12 (Int.toNat x5 * 18)) (Int.toNat x10 * 9)) 4) h9 fun b17 =>
(aB (Addr.add (Addr.add (Addr.add a12 (Int.toNat x5 * 18)) (Int.toNat x10 * 9)) 5) h9 fun b18 =>
(aB (Addr.add (Addr.add (Addr.add a12 (Int.toNat x5 * 18)) (Int.toNat x10 * 9)) 6) h9 fun b19 =>
(aB (Addr.add (Addr.add (Addr.add a12 (Int.toNat x5 * 18)) (Int.toNat x10 * 9)) 7) h9 fun b20 =>
(aB (Addr.add (Addr.add (Addr.add a12 (Int.toNat x5 * 18)) (Int.toNat x10 * 9)) 8) h9 fun b21 =>
(f_qei b13 n14 n15 n16 b17 b18 b19 b20 b21 p1 p2 (fun b22 h23 =>
(bsel b22
(onSome p0 fun a24 =>
(inB x5 8
(inB x10 2
(aC (Addr.add (Addr.add a24 (Int.toNat x5 * 18)) (Int.toNat x10 * 9)) (.bool false) h23 fun h25 =>
(aC (Addr.add (Addr.add (Addr.add a24 (Int.toNat x5 * 18)) (Int.toNat x10 * 9)) 1) (.int .i64 (0 : Int)) h25 fun h26 =>
(aC (Addr.add (Addr.add (Addr.add a24 (Int.toNat x5 * 18)) (Int.toNat x10 * 9)) 2) (.int .i64 (0 : Int)) h26 fun h27 =>
(aC (Addr.add (Addr.add (Addr.add a24 (Int.toNat x5 * 18)) (Int.toNat x10 * 9)) 3) (.int .i64 (0 : Int)) h27 fun h28 =>
(aC (Addr.add (Addr.add (Addr.add a24 (Int.toNat x5 * 18)) (Int.toNat x10 * 9)) 4) (.bool false) h28 fun h29 =>
(aC (Addr.add (Addr.add (Addr.add a24 (Int.toNat x5 * 18)) (Int.toNat x10 * 9)) 5) (.bool false) h29 fun h30 =>
(aC (Addr.add (Addr.add (Addr.add a24 (Int.toNat x5 * 18)) (Int.toNat x10 * 9)) 6) (.bool false) h30 fun h31 =>
(aC (Addr.add (Addr.add (Addr.add a24 (Int.toNat x5 * 18)) (Int.toNat x10 * 9)) 7) (.bool false) h31 fun h32 =>
(aC (Addr.add (Addr.add (Addr.add a24 (Int.toNat x5 * 18)) (Int.toNat x10 * 9)) 8) (.bool false) h32 fun h33 =>
(R11 h33)))))))))))))
(R11 h23))) h9))))))))))))))
(∃ m3,m3 < m2 ∧ I1 (IntKind.wrap .i64 (x5 + (1 : Int))) m3 h9)))
(Q h4)))
def qej_A : qej_T := qej_G qei_A
def qej_W (f : qej_T) : ArS [.c .p,.fn 140 [] [.p,.p]] EnR := fun p0 p1 p2 K _Kp => f p0 p1 p2 (K (.tuple #[]))
abbrev qek_T := Option Addr→Int→Int→(AH→Prop)→AP
def qek_G (f_qej : qej_T) (p0 : Option Addr) (p1 : Int) (p2 : Int) (Q : AH→Prop) (h : AH) : Prop :=
(newA h (.cells #[(.int .i64 p1)] 3) fun b1 h2 =>
(newA h2 (.cells #[(.int .i64 p2)] 3) fun b3 h4 =>
(f_qej p0 (some (Addr.mk b1 0 none)) (some (Addr.mk b3 0 none)) (fun h5 =>
(Q h5)) h4)))
def qek_A : qek_T := qek_G qej_A
def qek_W (f : qek_T) : ArS [.c .p,.c (.i .i64),.c (.i .i64)] EnR := fun p0 p1 p2 K _Kp => f p0 p1 p2 (K (.tuple #[]))
abbrev qel_T := Option Addr→Int→Int→(AH→Prop)→AP
def qel_G (f_qeg : qeg_T) (f_qek : qek_T) (p0 : Option Addr) (p1 : Int) (p2 : Int) (Q : AH→Prop) (h : AH) : Prop :=
(onSome p0 fun a1 =>
(aP (Addr.add a1 4) h fun pt2 =>
(f_qeg pt2 p1 (fun n3 b4 h5 =>
(bsel b4
(onSome p0 fun a6 =>
(aP (Addr.add a6 3) h5 fun pt7 =>
(f_qek pt7 n3 p2 (fun h8 =>
(Q h8)) h5)))
(Q h5))) h)))
def qel_A : qel_T := qel_G qeg_A qek_A
def qel_W (f : qel_T) : ArS [.c .p,.c (.i .i64),.c (.i .i64)] EnR := fun p0 p1 p2 K _Kp => f p0 p1 p2 (K (.tuple #[]))
abbrev qem_T := Option Addr→Int→Option Addr→Int→(AH→Prop)→AP
def qem_G (f_qci : qci_T) (f_qat : qat_T) (f_qef : qef_T) (f_qbh : qbh_T) (f_qel : qel_T) (p0 : Option Addr) (p1 : Int) (p2 : Option Addr) (p3 : Int) (Q : AH→Prop) (h : AH) : Prop :=
(onSome p2 fun a1 =>
(aS (Addr.add a1 2) h fun s2 =>
(f_qci s2 p3 (fun _ _ _ _ _ n8 _ h10 =>
(onSome p2 fun a11 =>
(onSome p2 fun a12 =>
(aI .i64 a11 h10 fun n13 =>
(aI .i64 (Addr.add a12 1) h10 fun n14 =>
(f_qat p0 n13 (fun pt15 pt16 pt17 n18 h19 =>
((aI .i64 (Addr.add a12 1) h19 fun n20 =>
(((.int .i64 n20) : Value) = (.int .i64 n14))) ∧
(f_qef pt15 pt16 pt17 n18 n14 p3 (fun n21 n22 h23 =>
(∃ R24 : AH→Prop,(∀ h33,R24 h33 →
(f_qel p0 p1 p3 (fun h34 =>
(Q h34)) h33)) ∧
(bsel (n22 == (0 : Int))
(bsel (n8 == (0 : Int))
(onSome p2 fun a25 =>
(aI .i64 a25 h23 fun n26 =>
(f_qat p0 n26 (fun pt27 pt28 pt29 n30 h31 =>
(f_qbh pt27 pt28 pt29 n30 n21 (fun h32 =>
(R24 h32)) h31)) h23)))
(R24 h23))
(R24 h23)))) h19))) h10)))))) h)))
def qem_A : qem_T := qem_G qci_A qat_A qef_A qbh_A qel_A
def qem_W (f : qem_T) : ArS [.c .p,.c (.i .i64),.c .p,.c (.i .i64)] EnR := fun p0 p1 p2 p3 K _Kp => f p0 p1 p2 p3 (K (.tuple #[]))
abbrev qen_T := Bool→Int→Int→Int→Bool→Bool→Bool→Bool→Bool→Option Addr→(Bool→AH→Prop)→AP
def qen_A (_p0 : Bool) (p1 : Int) (_p2 : Int) (_p3 : Int) (_p4 : Bool) (_p5 : Bool) (_p6 : Bool) (p7 : Bool) (_p8 : Bool) (p9 : Option Addr) (Q : Bool→AH→Prop) (h : AH) : Prop :=
(onSome p9 fun a1 =>
(aI .i64 a1 h fun n2 =>
(bsel (p1 == n2)
(Q (!p7) h)
(Q false h))))
def qen_W (f : qen_T) : ArS [.agg [.b,(.i .i64),(.i .i64),(.i .i64),.b,.b,.b,.b,.b],.c .p] EnR := fun p0 p1 p2 p3 p4 p5 p6 p7 p8 p9 K _Kp => f p0 p1 p2 p3 p4 p5 p6 p7 p8 p9 (fun r0 => K (.bool r0))
abbrev qeo_T := Option Addr→Option Addr→(AH→Prop)→AP
def qeo_G (f_qen : qen_T) (p0 : Option Addr) (p1 : Option Addr) (Q : AH→Prop) (h : AH) : Prop :=
(∃ I1 : Int→Nat→AH→Prop,(∃ m2,I1 (0 : Int) m2 h) ∧ ∀ x5 : Int,∀ m2 h4,I1 x5 m2 h4 →
(bsel (decide (x5 < (8 : Int)))
(∃ I6 : Int→Nat→AH→Prop,(∃ m7,I6 (0 : Int) m7 h4) ∧ ∀ x10 : Int,∀ m7 h9,I6 x10 m7 h9 →
(bsel (decide (x10 < (2 : Int)))
(∃ R11 : AH→Prop,(∀ h34,R11 h34 →
(∃ m8,m8 < m7 ∧ I6 (IntKind.wrap .i64 (x10 + (1 : Int))) m8 h34)) ∧
(onSome p0 fun a12 =>
(inB x5 8
(inB x10 2
(aB (Addr.add (Addr.add a12 (Int.toNat x5 * 18)) (Int.toNat x10 * 9)) h9 fun b13 =>
(aI .i64 (Addr.add (Addr.add (Addr.add a12 (Int.toNat x5 * 18)) (Int.toNat x10 * 9)) 1) h9 fun n14 =>
(aI .i64 (Addr.add (Addr.add (Addr.add a12 (Int.toNat x5 * 18)) (Int.toNat x10 * 9)) 2) h9 fun n15 =>
(aI .i64 (Addr.add (Addr.add (Addr.add a12 (Int.toNat x5 * 18)) (Int.toNat x10 * 9)) 3) h9 fun n16 =>
(aB (Addr.add (Addr.add (Addr.add a12 (Int.toNat x5 * 18)) (Int.toNat x10 * 9)) 4) h9 fun b17 =>
(aB (Addr.add (Addr.add (Addr.add a12 (Int.toNat x5 * 18)) (Int.toNat x10 * 9)) 5) h9 fun b18 =>
(aB (Addr.add (Addr.add (Addr.add a12 (Int.toNat x5 * 18)) (Int.toNat x10 * 9)) 6) h9 fun b19 =>
(aB (Addr.add (Addr.add (Addr.add a12 (Int.toNat x5 * 18)) (Int.toNat x10 * 9)) 7) h9 fun b20 =>
(aB (Addr.add (Addr.add (Addr.add a12 (Int.toNat x5 * 18)) (Int.toNat x10 * 9)) 8) h9 fun b21 =>
(f_qen b13 n14 n15 n16 b17 b18 b19 b20 b21 p1 (fun b22 h23 =>
(bsel b22
(onSome p0 fun a24 =>
(inB x5 8
(inB x10 2
(aC (Addr.add (Addr.add a24 (Int.toNat x5 * 18)) (Int.toNat x10 * 9)) (.bool false) h23 fun h25 =>
(aC (Addr.add (Addr.add (Addr.add a24 (Int.toNat x5 * 18)) (Int.toNat x10 * 9)) 1) (.int .i64 (0 : Int)) h25 fun h26 =>
(aC (Addr.add (Addr.add (Addr.add a24 (Int.toNat x5 * 18)) (Int.toNat x10 * 9)) 2) (.int .i64 (0 : Int)) h26 fun h27 =>
(aC (Addr.add (Addr.add (Addr.add a24 (Int.toNat x5 * 18)) (Int.toNat x10 * 9)) 3) (.int .i64 (0 : Int)) h27 fun h28 =>
(aC (Addr.add (Addr.add (Addr.add a24 (Int.toNat x5 * 18)) (Int.toNat x10 * 9)) 4) (.bool false) h28 fun h29 =>
(aC (Addr.add (Addr.add (Addr.add a24 (Int.toNat x5 * 18)) (Int.toNat x10 * 9)) 5) (.bool false) h29 fun h30 =>
(aC (Addr.add (Addr.add (Addr.add a24 (Int.toNat x5 * 18)) (Int.toNat x10 * 9)) 6) (.bool false) h30 fun h31 =>
(aC (Addr.add (Addr.add (Addr.add a24 (Int.toNat x5 * 18)) (Int.toNat x10 * 9)) 7) (.bool false) h31 fun h32 =>
(aC (Addr.add (Addr.add (Addr.add a24 (Int.toNat x5 * 18)) (Int.toNat x10 * 9)) 8) (.bool false) h32 fun h33 =>
(R11 h33)))))))))))))
(R11 h23))) h9))))))))))))))
(∃ m3,m3 < m2 ∧ I1 (IntKind.wrap .i64 (x5 + (1 : Int))) m3 h9)))
(Q h4)))
def qeo_A : qeo_T := qeo_G qen_A
def qeo_W (f : qeo_T) : ArS [.c .p,.fn 76 [] [.p]] EnR := fun p0 p1 K _Kp => f p0 p1 (K (.tuple #[]))
abbrev qep_T := Option Addr→Int→(AH→Prop)→AP
def qep_G (f_qeo : qeo_T) (p0 : Option Addr) (p1 : Int) (Q : AH→Prop) (h : AH) : Prop :=
(newA h (.cells #[(.int .i64 p1)] 3) fun b1 h2 =>
(f_qeo p0 (some (Addr.mk b1 0 none)) (fun h3 =>
(Q h3)) h2))
def qep_A : qep_T := qep_G qeo_A
def qep_W (f : qep_T) : ArS [.c .p,.c (.i .i64)] EnR := fun p0 p1 K _Kp => f p0 p1 (K (.tuple #[]))
abbrev qeq_T := Option Addr→Int→(AH→Prop)→AP
def qeq_A (p0 : Option Addr) (p1 : Int) (Q : AH→Prop) (h : AH) : Prop :=
(onSome p0 fun a1 =>
(aM (Addr.add a1 4) h fun mp2 =>
(aLk h mp2 .i64 p1 fun o3 =>
(∃ n4 : Int,((o3.getD (.int .i64 (0 : Int))) : Value) = (.int .i64 n4) ∧
(bsel o3.isSome
(onSome p0 fun a5 =>
(aM (Addr.add a5 3) h fun mp6 =>
(aMDl h mp6 .i64 n4 fun h7 =>
(onSome p0 fun a8 =>
(aM (Addr.add a8 4) h7 fun mp9 =>
(aMDl h7 mp9 .i64 p1 fun h10 =>
(Q h10)))))))
(Q h))))))
def qeq_W (f : qeq_T) : ArS [.c .p,.c (.i .i64)] EnR := fun p0 p1 K _Kp => f p0 p1 (K (.tuple #[]))
abbrev qer_T := Option Addr→Option Addr→Option Addr→Int→Int→(Int→AH→Prop)→AP
def qer_G (f_qed : qed_T) (f_qbh : qbh_T) (p0 : Option Addr) (p1 : Option Addr) (p2 : Option Addr) (p3 : Int) (p4 : Int) (Q : Int→AH→Prop) (h : AH) : Prop :=
(f_qed p0 p1 p2 p3 p4 (fun s1 h2 =>
(bsel (decide ((Int.ofNat s1.len) > (0 : Int)))
(Q (11 : Int) h2)
(f_qbh p0 p1 p2 p3 p4 (fun h3 =>
(Q (0 : Int) h3)) h2))) h)
def qer_A : qer_T := qer_G qed_A qbh_A
def qer_W (f : qer_T) : ArS [.agg [.p,.p,.p,(.i .i64)],.c (.i .i64)] EnR := fun p0 p1 p2 p3 p4 K _Kp => f p0 p1 p2 p3 p4 (fun r0 => K (.int .i64 r0))
abbrev qes_T := Option Addr→Int→(Int→AH→Prop)→AP
def qes_G (f_qea : qea_T) (f_qat : qat_T) (f_qed : qed_T) (f_qem : qem_T) (f_qeg : qeg_T) (f_qep : qep_T) (f_qeq : qeq_T) (f_qer : qer_T) (p0 : Option Addr) (p1 : Int) (Q : Int→AH→Prop) (h : AH) : Prop :=
(onSome p0 fun a1 =>
(aM (Addr.add a1 6) h fun mp2 =>
(aLk h mp2 .i64 p1 fun o3 =>
(∃ pt4 : Option Addr,((o3.getD (.pointer none)) : Value) = (.pointer pt4) ∧
(bsel pt4.isNone
(Q (5 : Int) h)
(f_qea pt4 (0 : Int) (34359738368 : Int) (fun b5 h6 =>
(bsel b5
(Q (11 : Int) h6)
(onSome pt4 fun a7 =>
(aI .i64 a7 h6 fun n8 =>
(f_qat p0 n8 (fun pt9 pt10 pt11 n12 h13 =>
(onSome pt4 fun a14 =>
(aI .i64 (Addr.add a14 1) h13 fun n15 =>
(f_qed pt9 pt10 pt11 n12 n15 (fun s16 h17 =>
(∃ I18 : Int→Nat→AH→Prop,(∃ m19,I18 (0 : Int) m19 h17) ∧ ∀ x22 : Int,∀ m19 h21,I18 x22 m19 h21 →
(bsel (decide (x22 < (Int.ofNat s16.len)))
(onSome s16.a fun a23 =>
(inB x22 s16.len
(aI .i64 (Addr.add a23 (Int.toNat x22 * 1)) h21 fun n24 =>
(f_qem p0 p1 pt4 n24 (fun h25 =>
(∃ m20,m20 < m19 ∧ I18 (IntKind.wrap .i64 (x22 + (1 : Int))) m20 h25)) h21))))
(∃ R26 : AH→Prop,(∀ h35,R26 h35 →
(onSome p0 fun a36 =>
(aP (Addr.add a36 4) h35 fun pt37 =>
(f_qeq pt37 p1 (fun h38 =>
(onSome pt4 fun a39 =>
(aI .i64 (Addr.add a39 1) h38 fun n40 =>
(f_qer pt9 pt10 pt11 n12 n40 (fun _ h42 =>
(onSome p0 fun a43 =>
(aM (Addr.add a43 6) h42 fun mp44 =>
(aMDl h42 mp44 .i64 p1 fun h45 =>
(Q (0 : Int) h45))))) h38)))) h35)))) ∧
(onSome p0 fun a27 =>
(aP (Addr.add a27 4) h21 fun pt28 =>
(f_qeg pt28 p1 (fun n29 b30 h31 =>
(bsel b30
(onSome p0 fun a32 =>
(aP (Addr.add a32 3) h31 fun pt33 =>
(f_qep pt33 n29 (fun h34 =>
(R26 h34)) h31)))
(R26 h31))) h21))))))) h13)))) h6))))) h))))))
def qes_A : qes_T := qes_G qea_A qat_A qed_A qem_A qeg_A qep_A qeq_A qer_A
def qes_W (f : qes_T) : ArS [.c .p,.c (.i .i64)] EnR := fun p0 p1 K _Kp => f p0 p1 (fun r0 => K (.int .i64 r0))
abbrev qet_T := Int→(Bool→AH→Prop)→AP
def qet_G (f_qdw : qdw_T) (f_qbs : qbs_T) (f_qdm : qdm_T) (f_qdn : qdn_T) (f_qdv : qdv_T) (f_qbu : qbu_T) (f_qes : qes_T) (p0 : Int) (Q : Bool→AH→Prop) (h : AH) : Prop :=
(∃ R1 : AH→Prop,(∀ h6,R1 h6 →
(f_qbs p0 (3 : Int) (fun pt7 _ _ _ b11 h12 =>
(bsel (!b11)
(Q false h12)
(f_qdm pt7 (fun s13 h14 =>
(f_qdn s13 (fun n15 n16 n17 n18 h19 =>
(f_qdv pt7 (fun n20 h21 =>
(f_qbu pt7 (0 : Int) (0 : Int) (fun n22 h23 =>
(f_qdm pt7 (fun s24 h25 =>
(f_qdn s24 (fun n26 n27 n28 n29 h30 =>
(f_qdv pt7 (fun n31 h32 =>
(f_qes pt7 (0 : Int) (fun n33 h34 =>
(f_qdm pt7 (fun s35 h36 =>
(f_qdn s35 (fun n37 n38 n39 n40 h41 =>
(f_qdw (fun b42 h43 =>
(bsel b42
(bsel ((n15 == (IntKind.wrap .i64 (p0 - (3 : Int)))) && ((n16 == (0 : Int)) && ((n17 == (0 : Int)) && ((n18 == (0 : Int)) && true))))
(bsel (n20 == (0 : Int))
(bsel (n22 == (0 : Int))
(bsel ((n26 == (IntKind.wrap .i64 (p0 - (4 : Int)))) && ((n27 == (2 : Int)) && ((n28 == (1 : Int)) && ((n29 == (0 : Int)) && true))))
(bsel (n31 == (0 : Int))
(bsel (n33 == (0 : Int))
(Q ((n37 == n15) && ((n38 == n16) && ((n39 == n17) && ((n40 == n18) && true)))) h43)
(Q false h43))
(Q false h43))
(Q false h43))
(Q false h43))
(Q false h43))
(Q false h43))
(Q false h43))) h41)) h36)) h34)) h32)) h30)) h25)) h23)) h21)) h19)) h14)) h12))) h6)) ∧
(bsel (decide (p0 < (20 : Int)))
(f_qdw (fun b2 h3 =>
(Q b2 h3)) h)
(bsel (decide (p0 > (300 : Int)))
(f_qdw (fun b4 h5 =>
(Q b4 h5)) h)
(R1 h))))
def qet_A : qet_T := qet_G qdw_A qbs_A qdm_A qdn_A qdv_A qbu_A qes_A
def qet_W (f : qet_T) : ArS [.c (.i .i64)] EnR := fun p0 K _Kp => f p0 (fun r0 => K (.bool r0))
end Go.Dn
