/- Printed by gen3.py: what each function does, as a predicate over a part of the heap. -/
import Derived.Test.YtmfmhmipcdgikaaGreatDnY
import Derived.Test.YtmfmhmipcdgikaaGreatParseD
import Derived.Test.YtmfmhmipcdgikaaGreatDnZ
import Derived.Test.YtmfmhmipcdgikaaGreatDnO
namespace Go.Dn
abbrev ty_call_bad:Nat:=158
abbrev ty_walk_stop:Nat:=317
abbrev qaa_T:=Int→Int→Int→(Sl→AH→Prop)→AP
def qaa_A (p0:Int) (p1:Int) (p2:Int) (Q:Sl→AH→Prop) (h:AH):Prop:=
(newA h (.cells (madeCells #[(.int .u8 (0:Int))] (20*1)) 5) fun b1 h2=>
(∃ I3:Int→Nat→AH→Prop,(∃ m4,I3 (0:Int) m4 h2)∧∀ x7:Int,∀ m4 h6,I3 x7 m4 h6→
(bsel (decide (x7<(8:Int)))
(bsel (decide ((IntKind.wrap .i64 ((8:Int)*x7))<0)) False
(inB x7 20
(aC (Addr.add (Addr.mk b1 0 none) (Int.toNat x7*1)) (.int .u8 (IntKind.wrap .u8 (Int.fdiv p0 (2 ^ (min (Int.toNat (IntKind.wrap .i64 ((8:Int)*x7))) 64))))) h6 fun h8=>
(bsel (decide ((IntKind.wrap .i64 ((8:Int)*x7))<0)) False
(inB (IntKind.wrap .i64 ((8:Int)+x7)) 20
(aC (Addr.add (Addr.mk b1 0 none) (Int.toNat (IntKind.wrap .i64 ((8:Int)+x7))*1)) (.int .u8 (IntKind.wrap .u8 (Int.fdiv p1 (2 ^ (min (Int.toNat (IntKind.wrap .i64 ((8:Int)*x7))) 64))))) h8 fun h9=>
(∃ m5,m5<m4∧I3 (IntKind.wrap .i64 (x7+(1:Int))) m5 h9)))))))
(∃ I10:Int→Nat→AH→Prop,(∃ m11,I10 (0:Int) m11 h6)∧∀ x14:Int,∀ m11 h13,I10 x14 m11 h13→
(bsel (decide (x14<(4:Int)))
(bsel (decide ((IntKind.wrap .i64 ((8:Int)*x14))<0)) False
(inB (IntKind.wrap .i64 ((16:Int)+x14)) 20
(aC (Addr.add (Addr.mk b1 0 none) (Int.toNat (IntKind.wrap .i64 ((16:Int)+x14))*1)) (.int .u8 (IntKind.wrap .u8 (Int.fdiv p2 (2 ^ (min (Int.toNat (IntKind.wrap .i64 ((8:Int)*x14))) 32))))) h13 fun h15=>
(∃ m12,m12<m11∧I10 (IntKind.wrap .i64 (x14+(1:Int))) m12 h15))))
(Q (Sl.mk (some (Addr.mk b1 0 none)) 20 20) h13))))))
def qaa_W (f:qaa_T):ArS [.c (.i .u64),.c (.i .u64),.c (.i .u32)] EnR:=fun p0 p1 p2 K _Kp=>f p0 p1 p2 (fun r0=>K (.slice r0.a r0.len r0.cap))
abbrev qab_T:=Int→Int→(Int→Int→Int→Int→Sl→AH→Prop)→AP
def qab_G (f_qaa:qaa_T) (p0:Int) (p1:Int) (Q:Int→Int→Int→Int→Sl→AH→Prop) (h:AH):Prop:=
(f_qaa (0:Int) (IntKind.wrap .u64 ((IntKind.wrap .u64 p0)*(4096:Int))) (1:Int) (fun s1 h2=>
(Q p0 (0:Int) (1:Int) p1 s1 h2)) h)
def qab_A:qab_T:=qab_G qaa_A
def qab_W (f:qab_T):ArS [.c (.i .i64),.c (.i .i64)] EnR:=fun p0 p1 K _Kp=>f p0 p1 (fun r0 r1 r2 r3 r4=>K (.agg #[(.int .i64 r0),(.int .i64 r1),(.int .i64 r2),(.int .i64 r3),(.slice r4.a r4.len r4.cap)]))
abbrev qac_T:=Int→Int→Int→Sl→(Int→Int→Int→Int→Sl→Int→Sl→AH→Prop)→AP
def qac_G (f_qab:qab_T) (p0:Int) (p1:Int) (p2:Int) (p3:Sl) (Q:Int→Int→Int→Int→Sl→Int→Sl→AH→Prop) (h:AH):Prop:=
(∃ R1:Sl→AH→Prop,(∀ s2:Sl,∀ h3,R1 s2 h3→
(f_qab p0 p1 (fun n4 n5 n6 n7 s8 h9=>
(newA h9 (.cells #[] 3) fun b10 h11=>
(apA 1 8 #[(.int .i64 (0:Int))] 3 (Sl.mk (some (Addr.mk b10 0 none)) 0 0) s2 h11 fun s12 h13=>
(Q n4 n5 n6 n7 s8 p2 s12 h13)))) h3))∧
(bsel (decide ((Int.ofNat p3.len) > (200:Int)))
(inB (200:Int) (p3.cap+1)
(R1 (Sl.mk (if p3.cap=0 then p3.a else Option.map (fun x=>Addr.add x (0*1)) p3.a) 200 p3.cap) h))
(R1 p3 h)))
def qac_A:qac_T:=qac_G qab_A
def qac_W (f:qac_T):ArS [.c (.i .i64),.c (.i .i64),.c (.i .i64),.c .s] EnR:=fun p0 p1 p2 p3 K _Kp=>f p0 p1 p2 p3 (fun r0 r1 r2 r3 r4 r5 r6=>K (.agg #[(.int .i64 r0),(.int .i64 r1),(.int .i64 r2),(.int .i64 r3),(.slice r4.a r4.len r4.cap),(.int .i64 r5),(.slice r6.a r6.len r6.cap)]))
abbrev qad_T:=Sl→(Sl→Int→AH→Prop)→AP
def qad_A:qad_T:=paA 201
def qad_W (f:qad_T):ArS [.c .s] EnR:=fun p0 K _Kp=>f p0 (fun r0 r1=>K (.tuple #[.slice r0.a r0.len r0.cap,.int .i64 r1]))
abbrev qae_T:=Int→Int→Int→Int→(Int→Int→AH→Prop)→AP
def qae_A (p0:Int) (p1:Int) (p2:Int) (p3:Int) (Q:Int→Int→AH→Prop) (h:AH):Prop:=
(∃ R1:Int→Int→AH→Prop,(∀ x2:Int,∀ x3:Int,∀ h4,R1 x2 x3 h4→
(∃ R5:Int→AH→Prop,(∀ x6:Int,∀ h7,R5 x6 h7→
(Q ((IntKind.wrap .i64 (if (IntKind.wrap .u64 p3)<x2 then (IntKind.wrap .u64 p3) else x2)):Int) ((IntKind.wrap .i64 (if (IntKind.wrap .u64 p3)<x6 then (IntKind.wrap .u64 p3) else x6)):Int) h7))∧
(bsel (p1==(0:Int))
(R5 x2 h4)
(R5 x3 h4))))∧
(bsel (p2==(1:Int))
(bsel ((Int.tmod p0 (4096:Int)) != (0:Int))
(R1 (IntKind.wrap .u64 ((IntKind.wrap .u64 (Int.tdiv p0 (4096:Int)))+(1:Int))) (IntKind.wrap .u64 (Int.tdiv (IntKind.wrap .u64 (p0+p1)) (4096:Int))) h)
(R1 (IntKind.wrap .u64 (Int.tdiv p0 (4096:Int))) (IntKind.wrap .u64 (Int.tdiv (IntKind.wrap .u64 (p0+p1)) (4096:Int))) h))
(bsel ((Int.tmod (IntKind.wrap .u64 (p0+p1)) (4096:Int)) != (0:Int))
(R1 (IntKind.wrap .u64 (Int.tdiv p0 (4096:Int))) (IntKind.wrap .u64 ((IntKind.wrap .u64 (Int.tdiv (IntKind.wrap .u64 (p0+p1)) (4096:Int)))+(1:Int))) h)
(R1 (IntKind.wrap .u64 (Int.tdiv p0 (4096:Int))) (IntKind.wrap .u64 (Int.tdiv (IntKind.wrap .u64 (p0+p1)) (4096:Int))) h))))
def qae_W (f:qae_T):ArS [.agg [(.i .u64),(.i .u64),(.i .u32)],.c (.i .i64)] EnR:=fun p0 p1 p2 p3 K _Kp=>f p0 p1 p2 p3 (fun r0 r1=>K (.agg #[(.int .i64 r0),(.int .i64 r1)]))
abbrev qaf_T:=Sl→(Sl→AH→Prop)→AP
def qaf_A (p0:Sl) (Q:Sl→AH→Prop) (h:AH):Prop:=
(bsel (Option.isNone p0.a)
(Q Sl.nil h)
(newA h (.cells #[] 30) fun b1 h2=>
(apA 2 16 #[(.int .i64 (0:Int)),(.int .i64 (0:Int))] 30 (Sl.mk (some (Addr.mk b1 0 none)) 0 0) p0 h2 fun s3 h4=>
(Q s3 h4))))
def qaf_W (f:qaf_T):ArS [.c .s] EnR:=fun p0 K _Kp=>f p0 (fun r0=>K (.slice r0.a r0.len r0.cap))
abbrev qag_T:=Int→Int→(Bool→AH→Prop)→AP
def qag_A (p0:Int) (p1:Int) (Q:Bool→AH→Prop) (h:AH):Prop:=
(Q (decide (p1≤p0)) h)
def qag_W (f:qag_T):ArS [.agg [(.i .i64),(.i .i64)]] EnR:=fun p0 p1 K _Kp=>f p0 p1 (fun r0=>K (.bool r0))
abbrev qah_T:=Sl→(Int→AH→Prop)→AP
def qah_G (f_qag:qag_T) (p0:Sl) (Q:Int→AH→Prop) (h:AH):Prop:=
(∃ I1:Int→Nat→AH→Prop,(∃ m2,I1 (0:Int) m2 h)∧∀ x5:Int,∀ m2 h4,I1 x5 m2 h4→
(bsel (decide (x5<(Int.ofNat p0.len)))
(onSome p0.a fun a6=>
(inB x5 p0.len
(aI .i64 (Addr.add a6 (Int.toNat x5*2)) h4 fun n7=>
(aI .i64 (Addr.add (Addr.add a6 (Int.toNat x5*2)) 1) h4 fun n8=>
(f_qag n7 n8 (fun b9 h10=>
(bsel b9
(Q x5 h10)
(∃ m3,m3<m2∧I1 (IntKind.wrap .i64 (x5+(1:Int))) m3 h10))) h4)))))
(Q (-1:Int) h4)))
def qah_A:qah_T:=qah_G qag_A
def qah_W (f:qah_T):ArS [.c .s,.fn 181 [] []] EnR:=fun p0 K _Kp=>f p0 (fun r0=>K (.int .i64 r0))
abbrev qai_T:=Sl→(Sl→AH→Prop)→AP
def qai_G (f_qah:qah_T) (f_qag:qag_T) (p0:Sl) (Q:Sl→AH→Prop) (h:AH):Prop:=
(f_qah p0 (fun n1 h2=>
(bsel (n1==(-1:Int))
(Q p0 h2)
(∃ I3:Int→Int→Nat→AH→Prop,(∃ m4,I3 n1 (IntKind.wrap .i64 (n1+(1:Int))) m4 h2)∧∀ x7:Int,∀ x8:Int,∀ m4 h6,I3 x7 x8 m4 h6→
(bsel (decide (x8<(Int.ofNat p0.len)))
(∃ R9:Int→AH→Prop,(∀ x18:Int,∀ h19,R9 x18 h19→
(∃ m5,m5<m4∧I3 x18 (IntKind.wrap .i64 (x8+(1:Int))) m5 h19))∧
(onSome p0.a fun a10=>
(inB x8 p0.len
(aI .i64 (Addr.add a10 (Int.toNat x8*2)) h6 fun n11=>
(aI .i64 (Addr.add (Addr.add a10 (Int.toNat x8*2)) 1) h6 fun n12=>
(f_qag n11 n12 (fun b13 h14=>
(bsel (!b13)
(onSome p0.a fun a15=>
(inB x7 p0.len
(aC (Addr.add a15 (Int.toNat x7*2)) (.int .i64 n11) h14 fun h16=>
(aC (Addr.add (Addr.add a15 (Int.toNat x7*2)) 1) (.int .i64 n12) h16 fun h17=>
(R9 (IntKind.wrap .i64 (x7+(1:Int))) h17)))))
(R9 x7 h14))) h6))))))
(inB x7 (p0.len+1)
(clrA #[(.int .i64 (0:Int)),(.int .i64 (0:Int))] (Sl.mk (if p0.cap=(Int.toNat x7) then p0.a else Option.map (fun x=>Addr.add x ((Int.toNat x7)*2)) p0.a) (p0.len-(Int.toNat x7)) (p0.cap-(Int.toNat x7))) h6 fun h20=>
(inB x7 (p0.cap+1)
(Q (Sl.mk (if p0.cap=0 then p0.a else Option.map (fun x=>Addr.add x (0*2)) p0.a) (Int.toNat x7) p0.cap) h20)))))))) h)
def qai_A:qai_T:=qai_G qah_A qag_A
def qai_W (f:qai_T):ArS [.c .s,.fn 181 [] []] EnR:=fun p0 K _Kp=>f p0 (fun r0=>K (.slice r0.a r0.len r0.cap))
abbrev qaj_T:=Sl→AP→AP
def qaj_A:qaj_T:=soA rgE (Go.Proofs.ltOf rgCf) 2
def qaj_W (f:qaj_T):ArS [.c .s,.fn 183 [] []] EnR:=fun p0 K _Kp=>f p0 (K (.tuple #[]))
abbrev qak_T:=Sl→(Sl→AH→Prop)→AP
def qak_G (f_qaf:qaf_T) (f_qai:qai_T) (f_qaj:qaj_T) (p0:Sl) (Q:Sl→AH→Prop) (h:AH):Prop:=
(f_qaf p0 (fun s1 h2=>
(f_qai s1 (fun s3 h4=>
(f_qaj s3 (fun h5=>
(∃ I6:Sl→Int→Nat→AH→Prop,(∃ m7,I6 Sl.nil (0:Int) m7 h5)∧∀ s10:Sl,∀ x11:Int,∀ m7 h9,I6 s10 x11 m7 h9→
(bsel (decide (x11<(Int.ofNat s3.len)))
(∃ R12:Sl→AH→Prop,(∀ s29:Sl,∀ h30,R12 s29 h30→
(∃ m8,m8<m7∧I6 s29 (IntKind.wrap .i64 (x11+(1:Int))) m8 h30))∧
(onSome s3.a fun a13=>
(inB x11 s3.len
(aI .i64 (Addr.add a13 (Int.toNat x11*2)) h9 fun n14=>
(aI .i64 (Addr.add (Addr.add a13 (Int.toNat x11*2)) 1) h9 fun n15=>
(∃ R16:Bool→AH→Prop,(∀ b19:Bool,∀ h20,R16 b19 h20→
(bsel b19
(onSome s10.a fun a21=>
(inB (IntKind.wrap .i64 ((Int.ofNat s10.len)-(1:Int))) s10.len
(aI .i64 (Addr.add (Addr.add a21 (Int.toNat (IntKind.wrap .i64 ((Int.ofNat s10.len)-(1:Int)))*2)) 1) h20 fun n22=>
(onSome s10.a fun a23=>
(inB (IntKind.wrap .i64 ((Int.ofNat s10.len)-(1:Int))) s10.len
(aC (Addr.add (Addr.add a23 (Int.toNat (IntKind.wrap .i64 ((Int.ofNat s10.len)-(1:Int)))*2)) 1) (.int .i64 (if n15 > n22 then n15 else n22)) h20 fun h24=>
(R12 s10 h24)))))))
(newA h20 (.cells #[(.int .i64 n14),(.int .i64 n15)] 30) fun b25 h26=>
(apA 2 16 #[(.int .i64 (0:Int)),(.int .i64 (0:Int))] 30 s10 (Sl.mk (some (Addr.mk b25 0 none)) 1 1) h26 fun s27 h28=>
(R12 s27 h28)))))∧
(bsel (decide ((Int.ofNat s10.len) > (0:Int)))
(onSome s10.a fun a17=>
(inB (IntKind.wrap .i64 ((Int.ofNat s10.len)-(1:Int))) s10.len
(aI .i64 (Addr.add (Addr.add a17 (Int.toNat (IntKind.wrap .i64 ((Int.ofNat s10.len)-(1:Int)))*2)) 1) h9 fun n18=>
(R16 (decide (n14≤n18)) h9))))
(R16 false h9))))))))
(Q s10 h9)))) h4)) h2)) h)
def qak_A:qak_T:=qak_G qaf_A qai_A qaj_A
def qak_W (f:qak_T):ArS [.c .s] EnR:=fun p0 K _Kp=>f p0 (fun r0=>K (.slice r0.a r0.len r0.cap))
abbrev qal_T:=Sl→Sl→(Sl→AH→Prop)→AP
def qal_G (f_qak:qak_T) (p0:Sl) (p1:Sl) (Q:Sl→AH→Prop) (h:AH):Prop:=
(f_qak p1 (fun s1 h2=>
(f_qak p0 (fun s3 h4=>
(∃ I5:Sl→Int→Nat→AH→Prop,(∃ m6,I5 Sl.nil (0:Int) m6 h4)∧∀ s9:Sl,∀ x10:Int,∀ m6 h8,I5 s9 x10 m6 h8→
(bsel (decide (x10<(Int.ofNat s3.len)))
(∃ R11:Sl→AH→Prop,(∀ s40:Sl,∀ h41,R11 s40 h41→
(∃ m7,m7<m6∧I5 s40 (IntKind.wrap .i64 (x10+(1:Int))) m7 h41))∧
(onSome s3.a fun a12=>
(inB x10 s3.len
(aI .i64 (Addr.add a12 (Int.toNat x10*2)) h8 fun n13=>
(aI .i64 (Addr.add (Addr.add a12 (Int.toNat x10*2)) 1) h8 fun n14=>
(∃ I15:Sl→Int→Int→Nat→AH→Prop,(∃ m16,I15 s9 n13 (0:Int) m16 h8)∧∀ s19:Sl,∀ x20:Int,∀ x21:Int,∀ m16 h18,I15 s19 x20 x21 m16 h18→
(bsel (decide (x21<(Int.ofNat s1.len)))
(∃ R22:Sl→Int→AH→Prop,(∀ s33:Sl,∀ x34:Int,∀ h35,R22 s33 x34 h35→
(∃ m17,m17<m16∧I15 s33 x34 (IntKind.wrap .i64 (x21+(1:Int))) m17 h35))∧
(onSome s1.a fun a23=>
(inB x21 s1.len
(aI .i64 (Addr.add a23 (Int.toNat x21*2)) h18 fun n24=>
(aI .i64 (Addr.add (Addr.add a23 (Int.toNat x21*2)) 1) h18 fun n25=>
(bsel (decide (n25≤x20))
(R22 s19 x20 h18)
(bsel (decide (n24≥n14))
(R22 s19 x20 h18)
(∃ R26:Sl→AH→Prop,(∀ s31:Sl,∀ h32,R26 s31 h32→
(R22 s31 (if n25 > x20 then n25 else x20) h32))∧
(bsel (decide (n24 > x20))
(newA h18 (.cells #[(.int .i64 x20),(.int .i64 n24)] 30) fun b27 h28=>
(apA 2 16 #[(.int .i64 (0:Int)),(.int .i64 (0:Int))] 30 s19 (Sl.mk (some (Addr.mk b27 0 none)) 1 1) h28 fun s29 h30=>
(R26 s29 h30)))
(R26 s19 h18))))))))))
(bsel (decide (x20<n14))
(newA h18 (.cells #[(.int .i64 x20),(.int .i64 n14)] 30) fun b36 h37=>
(apA 2 16 #[(.int .i64 (0:Int)),(.int .i64 (0:Int))] 30 s19 (Sl.mk (some (Addr.mk b36 0 none)) 1 1) h37 fun s38 h39=>
(R11 s38 h39)))
(R11 s19 h18)))))))))
(Q s9 h8)))) h2)) h)
def qal_A:qal_T:=qal_G qak_A
def qal_W (f:qal_T):ArS [.c .s,.c .s] EnR:=fun p0 p1 K _Kp=>f p0 p1 (fun r0=>K (.slice r0.a r0.len r0.cap))
abbrev qam_T:=Sl→Int→Int→Int→(Sl→Int→AH→Prop)→AP
def qam_G (f_qad:qad_T) (f_qae:qae_T) (f_qal:qal_T) (p0:Sl) (p1:Int) (p2:Int) (p3:Int) (Q:Sl→Int→AH→Prop) (h:AH):Prop:=
(∃ R1:AH→Prop,(∀ h2,R1 h2→
(f_qad p0 (fun s3 n4 h5=>
(bsel (n4 != (0:Int))
(Q Sl.nil n4 h5)
(newA h5 (.cells #[(.int .i64 p2),(.int .i64 p3)] 30) fun b6 h7=>
(∃ I8:Sl→Sl→Int→Nat→AH→Prop,(∃ m9,I8 Sl.nil (Sl.mk (some (Addr.mk b6 0 none)) 1 1) (0:Int) m9 h7)∧∀ s12:Sl,∀ s13:Sl,∀ x14:Int,∀ m9 h11,I8 s12 s13 x14 m9 h11→
(bsel (decide (x14<(Int.ofNat s3.len)))
(∃ R15:Sl→Sl→AH→Prop,(∀ s31:Sl,∀ s32:Sl,∀ h33,R15 s31 s32 h33→
(∃ m10,m10<m9∧I8 s31 s32 (IntKind.wrap .i64 (x14+(1:Int))) m10 h33))∧
(onSome s3.a fun a16=>
(inB x14 s3.len
(aI .u64 (Addr.add a16 (Int.toNat x14*3)) h11 fun n17=>
(aI .u64 (Addr.add (Addr.add a16 (Int.toNat x14*3)) 1) h11 fun n18=>
(aI .u32 (Addr.add (Addr.add a16 (Int.toNat x14*3)) 2) h11 fun n19=>
(f_qae n17 n18 n19 p1 (fun n20 n21 h22=>
(bsel (n19==(1:Int))
(newA h22 (.cells #[(.int .i64 n20),(.int .i64 n21)] 30) fun b23 h24=>
(apA 2 16 #[(.int .i64 (0:Int)),(.int .i64 (0:Int))] 30 s12 (Sl.mk (some (Addr.mk b23 0 none)) 1 1) h24 fun s25 h26=>
(R15 s25 s13 h26)))
(newA h22 (.cells #[(.int .i64 n20),(.int .i64 n21)] 30) fun b27 h28=>
(apA 2 16 #[(.int .i64 (0:Int)),(.int .i64 (0:Int))] 30 s13 (Sl.mk (some (Addr.mk b27 0 none)) 1 1) h28 fun s29 h30=>
(R15 s12 s29 h30))))) h11)))))))
(f_qal s12 s13 (fun s34 h35=>
(bsel ((Int.ofNat s34.len)==(0:Int))
(Q Sl.nil (7:Int) h35)
(Q s34 (0:Int) h35))) h11)))))) h2))∧
(bsel (decide (p1<(1:Int)))
(Q Sl.nil (1:Int) h)
(bsel (decide (p1 > (1048576:Int)))
(Q Sl.nil (1:Int) h)
(bsel (decide (p2<(0:Int)))
(Q Sl.nil (1:Int) h)
(bsel (decide (p3<p2))
(Q Sl.nil (1:Int) h)
(bsel (decide (p3 > p1))
(Q Sl.nil (1:Int) h)
(R1 h)))))))
def qam_A:qam_T:=qam_G qad_A qae_A qal_A
def qam_W (f:qam_T):ArS [.c .s,.c (.i .i64),.agg [(.i .i64),(.i .i64)]] EnR:=fun p0 p1 p2 p3 K _Kp=>f p0 p1 p2 p3 (fun r0 r1=>K (.tuple #[(.slice r0.a r0.len r0.cap),(.int .i64 r1)]))
abbrev qan_T:=Option Addr→(AH→Prop)→AP
def qan_A (p0:Option Addr) (Q:AH→Prop) (h:AH):Prop:=
(newA h (.map #[] 0) fun b1 h2=>
(newA h2 (.map #[] 0) fun b3 h4=>
(onSome p0 fun a5=>
(aC (Addr.add a5 1) (.int .i64 (1:Int)) h4 fun h6=>
(onSome p0 fun a7=>
(aC (Addr.add a7 3) (.map (some b1)) h6 fun h8=>
(onSome p0 fun a9=>
(aC (Addr.add a9 4) (.map (some b3)) h8 fun h10=>
(Q h10)))))))))
def qan_W (f:qan_T):ArS [.c .p] EnR:=fun p0 K _Kp=>f p0 (K (.tuple #[]))
abbrev qao_T:=Int→(Option Addr→Int→AH→Prop)→AP
def qao_G (f_qan:qan_T) (p0:Int) (Q:Option Addr→Int→AH→Prop) (h:AH):Prop:=
(bsel (decide (p0<(1:Int)))
(Q none (1:Int) h)
(bsel (decide (p0 > (4095:Int)))
(Q none (1:Int) h)
(newA h (.cells #[(.int .i64 p0),(.int .i64 (0:Int)),(.int .i64 (0:Int)),(.map none),(.map none)] 190) fun b1 h2=>
(f_qan (some (Addr.mk b1 0 none)) (fun h3=>
(Q (some (Addr.mk b1 0 none)) (0:Int) h3)) h2))))
def qao_A:qao_T:=qao_G qan_A
def qao_W (f:qao_T):ArS [.c (.i .i64)] EnR:=fun p0 K _Kp=>f p0 (fun r0 r1=>K (.tuple #[(.pointer r0),(.int .i64 r1)]))
abbrev qap_T:=Int→Sl→(Option Addr→Int→AH→Prop)→AP
def qap_A (p0:Int) (p1:Sl) (Q:Option Addr→Int→AH→Prop) (h:AH):Prop:=
(bsel (decide (p0<(1:Int)))
(Q none (1:Int) h)
(∃ R1:AH→Prop,(∀ h2,R1 h2→
(∃ I3:Int→Nat→AH→Prop,(∃ m4,I3 (0:Int) m4 h2)∧∀ x7:Int,∀ m4 h6,I3 x7 m4 h6→
(bsel (decide (x7<(Int.ofNat p1.len)))
(onSome p1.a fun a8=>
(inB x7 p1.len
(aI .i64 (Addr.add a8 (Int.toNat x7*2)) h6 fun n9=>
(aI .i64 (Addr.add (Addr.add a8 (Int.toNat x7*2)) 1) h6 fun n10=>
(bsel (decide (n9<(0:Int)))
(Q none (3:Int) h6)
(bsel (decide (n10<n9))
(Q none (3:Int) h6)
(bsel (decide (n10 > p0))
(Q none (3:Int) h6)
(∃ m5,m5<m4∧I3 (IntKind.wrap .i64 (x7+(1:Int))) m5 h6))))))))
(apA 2 16 #[(.int .i64 (0:Int)),(.int .i64 (0:Int))] 30 Sl.nil p1 h6 fun s11 h12=>
(newA h12 (.map #[] 0) fun b13 h14=>
(newA h14 (.cells #[(.int .i64 p0),(.slice s11.a s11.len s11.cap),(.map (some b13))] 206) fun b15 h16=>
(Q (some (Addr.mk b15 0 none)) (0:Int) h16)))))))∧
(bsel (decide (p0 > (1048576:Int)))
(Q none (4:Int) h)
(bsel (decide ((Int.ofNat p1.len) > (64:Int)))
(Q none (4:Int) h)
(R1 h)))))
def qap_W (f:qap_T):ArS [.c (.i .i64),.c .s] EnR:=fun p0 p1 K _Kp=>f p0 p1 (fun r0 r1=>K (.tuple #[(.pointer r0),(.int .i64 r1)]))
abbrev qaq_T:=Option Addr→Int→Int→(AH→Prop)→AP
def qaq_A (p0:Option Addr) (p1:Int) (p2:Int) (Q:AH→Prop) (h:AH):Prop:=
(∃ I1:Int→Int→Nat→AH→Prop,(∃ m2,I1 p1 p2 m2 h)∧∀ x5:Int,∀ x6:Int,∀ m2 h4,I1 x5 x6 m2 h4→
(bsel (decide (x6<(10:Int)))
(onSome p0 fun a7=>
(inB x6 11
(aM (Addr.add a7 (Int.toNat x6*1)) h4 fun mp8=>
(bsel (decide (x6<0)) False
(aLk h4 mp8 .i64 (bits .xor .i64 x5 (IntKind.wrap .i64 ((1:Int)*2 ^ (min (Int.toNat x6) 64)))) fun o9=>
(∃ b10:Bool,((o9.getD (.bool false)):Value)=(.bool b10)∧
(bsel b10
(onSome p0 fun a11=>
(inB x6 11
(aM (Addr.add a11 (Int.toNat x6*1)) h4 fun mp12=>
(bsel (decide (x6<0)) False
(aMDl h4 mp12 .i64 (bits .xor .i64 x5 (IntKind.wrap .i64 ((1:Int)*2 ^ (min (Int.toNat x6) 64)))) fun h13=>
(bsel (decide (x6<0)) False
(∃ m3,m3<m2∧I1 (bits .andNot .i64 x5 (IntKind.wrap .i64 ((1:Int)*2 ^ (min (Int.toNat x6) 64)))) (IntKind.wrap .i64 (x6+(1:Int))) m3 h13)))))))
(onSome p0 fun a14=>
(inB x6 11
(aM (Addr.add a14 (Int.toNat x6*1)) h4 fun mp15=>
(aMSt h4 mp15 .i64 x5 (.bool true) fun h16=>
(Q h16))))))))))))
(onSome p0 fun a17=>
(inB x6 11
(aM (Addr.add a17 (Int.toNat x6*1)) h4 fun mp18=>
(aMSt h4 mp18 .i64 x5 (.bool true) fun h19=>
(Q h19)))))))
def qaq_W (f:qaq_T):ArS [.c .p,.c (.i .i64),.c (.i .i64)] EnR:=fun p0 p1 p2 K _Kp=>f p0 p1 p2 (K (.tuple #[]))
abbrev qar_T:=Sl→(Option Addr→Int→AH→Prop)→AP
def qar_G (f_qaq:qaq_T) (p0:Sl) (Q:Option Addr→Int→AH→Prop) (h:AH):Prop:=
(bsel (decide ((Int.ofNat p0.len) > (64:Int)))
(Q none (4:Int) h)
(∃ I1:Int→Int→Nat→AH→Prop,(∃ m2,I1 (0:Int) (0:Int) m2 h)∧∀ x5:Int,∀ x6:Int,∀ m2 h4,I1 x5 x6 m2 h4→
(bsel (decide (x6<(Int.ofNat p0.len)))
(onSome p0.a fun a7=>
(inB x6 p0.len
(aI .i64 (Addr.add a7 (Int.toNat x6*2)) h4 fun n8=>
(aI .i64 (Addr.add (Addr.add a7 (Int.toNat x6*2)) 1) h4 fun n9=>
(bsel (decide (n8<x5))
(Q none (3:Int) h4)
(bsel (decide (n9≤n8))
(Q none (3:Int) h4)
(bsel (decide (n9 > (1048576:Int)))
(Q none (3:Int) h4)
(∃ m3,m3<m2∧I1 n9 (IntKind.wrap .i64 (x6+(1:Int))) m3 h4))))))))
(newA h4 (.map #[] 0) fun b10 h11=>
(newA h11 (.cells #[(.map none),(.map none),(.map none),(.map none),(.map none),(.map none),(.map none),(.map none),(.map none),(.map none),(.map none),(.map (some b10)),(.int .i64 (0:Int))] 115) fun b12 h13=>
(∃ I14:Int→Nat→AH→Prop,(∃ m15,I14 (0:Int) m15 h13)∧∀ x18:Int,∀ m15 h17,I14 x18 m15 h17→
(bsel (decide (x18<(11:Int)))
(newA h17 (.map #[] 0) fun b19 h20=>
(inB x18 11
(aC (Addr.add (Addr.mk b12 0 none) (Int.toNat x18*1)) (.map (some b19)) h20 fun h21=>
(∃ m16,m16<m15∧I14 (IntKind.wrap .i64 (x18+(1:Int))) m16 h21))))
(∃ I22:Int→Nat→AH→Prop,(∃ m23,I22 (0:Int) m23 h17)∧∀ x26:Int,∀ m23 h25,I22 x26 m23 h25→
(bsel (decide (x26<(Int.ofNat p0.len)))
(onSome p0.a fun a27=>
(inB x26 p0.len
(aI .i64 (Addr.add a27 (Int.toNat x26*2)) h25 fun n28=>
(aI .i64 (Addr.add (Addr.add a27 (Int.toNat x26*2)) 1) h25 fun n29=>
(∃ I30:Int→Nat→AH→Prop,(∃ m31,I30 n28 m31 h25)∧∀ x34:Int,∀ m31 h33,I30 x34 m31 h33→
(bsel (decide (x34<n29))
(∃ I35:Int→Nat→AH→Prop,(∃ m36,I35 (0:Int) m36 h33)∧∀ x39:Int,∀ m36 h38,I35 x39 m36 h38→
(bsel (decide (x39<(10:Int)))
(bsel (decide (x39<0)) False
(bsel ((bits .and .i64 x34 (IntKind.wrap .i64 ((1:Int)*2 ^ (min (Int.toNat x39) 64))))==(0:Int))
(bsel (decide (x39<0)) False
(bsel (decide ((IntKind.wrap .i64 (x34+(IntKind.wrap .i64 ((2:Int)*2 ^ (min (Int.toNat x39) 64)))))≤n29))
(∃ m37,m37<m36∧I35 (IntKind.wrap .i64 (x39+(1:Int))) m37 h38)
(f_qaq (some (Addr.mk b12 0 none)) x34 x39 (fun h40=>
(bsel (decide (x39<0)) False
(∃ m32,m32<m31∧I30 (IntKind.wrap .i64 (x34+(IntKind.wrap .i64 ((1:Int)*2 ^ (min (Int.toNat x39) 64))))) m32 h40))) h38)))
(f_qaq (some (Addr.mk b12 0 none)) x34 x39 (fun h41=>
(bsel (decide (x39<0)) False
(∃ m32,m32<m31∧I30 (IntKind.wrap .i64 (x34+(IntKind.wrap .i64 ((1:Int)*2 ^ (min (Int.toNat x39) 64))))) m32 h41))) h38)))
(f_qaq (some (Addr.mk b12 0 none)) x34 x39 (fun h42=>
(bsel (decide (x39<0)) False
(∃ m32,m32<m31∧I30 (IntKind.wrap .i64 (x34+(IntKind.wrap .i64 ((1:Int)*2 ^ (min (Int.toNat x39) 64))))) m32 h42))) h38)))
(aI .i64 (Addr.add (Addr.mk b12 0 none) 12) h33 fun n43=>
(aC (Addr.add (Addr.mk b12 0 none) 12) (.int .i64 (IntKind.wrap .i64 (n43+(IntKind.wrap .i64 (n29-n28))))) h33 fun h44=>
(∃ m24,m24<m23∧I22 (IntKind.wrap .i64 (x26+(1:Int))) m24 h44)))))))))
(Q (some (Addr.mk b12 0 none)) (0:Int) h25))))))))))
def qar_A:qar_T:=qar_G qaq_A
def qar_W (f:qar_T):ArS [.c .s] EnR:=fun p0 K _Kp=>f p0 (fun r0 r1=>K (.tuple #[(.pointer r0),(.int .i64 r1)]))
abbrev qas_T:=Option Addr→(Int→AH→Prop)→AP
def qas_A (p0:Option Addr) (Q:Int→AH→Prop) (h:AH):Prop:=
(onSome p0 fun a1=>
(aI .i64 (Addr.add a1 12) h fun n2=>
(Q n2 h)))
def qas_W (f:qas_T):ArS [.c .p] EnR:=fun p0 K _Kp=>f p0 (fun r0=>K (.int .i64 r0))
abbrev qat_T:=Int→(Option Addr→Int→AH→Prop)→AP
def qat_A (p0:Int) (Q:Option Addr→Int→AH→Prop) (h:AH):Prop:=
(bsel (decide (p0<(0:Int)))
(Q none (1:Int) h)
(bsel (decide (p0 > (1048576:Int)))
(Q none (1:Int) h)
(newA h (.cells #[(.int .i64 (-1:Int)),(.int .i64 p0),(.int .i64 (0:Int)),(.int .i64 (0:Int)),(.bool true)] 104) fun b1 h2=>
(newA h2 (.cells #[(.slice (some (Addr.mk b1 0 none)) 1 1)] 210) fun b3 h4=>
(Q (some (Addr.mk b3 0 none)) (0:Int) h4)))))
def qat_W (f:qat_T):ArS [.c (.i .i64)] EnR:=fun p0 K _Kp=>f p0 (fun r0 r1=>K (.tuple #[(.pointer r0),(.int .i64 r1)]))
abbrev qau_T:=Option Addr→Int→(Option Addr→Option Addr→Option Addr→Int→AH→Prop)→AP
def qau_A (p0:Option Addr) (p1:Int) (Q:Option Addr→Option Addr→Option Addr→Int→AH→Prop) (h:AH):Prop:=
(onSome p0 fun a1=>
(aP a1 h fun pt2=>
(onSome p0 fun a3=>
(aP (Addr.add a3 1) h fun pt4=>
(onSome p0 fun a5=>
(aP (Addr.add a5 2) h fun pt6=>
(Q pt2 pt4 pt6 p1 h)))))))
def qau_W (f:qau_T):ArS [.c .p,.c (.i .i64)] EnR:=fun p0 p1 K _Kp=>f p0 p1 (fun r0 r1 r2 r3=>K (.agg #[(.pointer r0),(.pointer r1),(.pointer r2),(.int .i64 r3)]))
abbrev qav_T:=Option Addr→Int→(Option Addr→Bool→AH→Prop)→AP
def qav_A (p0:Option Addr) (p1:Int) (Q:Option Addr→Bool→AH→Prop) (h:AH):Prop:=
(bsel (decide (p1<(0:Int)))
(Q none false h)
(onSome p0 fun a1=>
(aS a1 h fun s2=>
(bsel (decide (p1≥(Int.ofNat s2.len)))
(Q none false h)
(onSome p0 fun a3=>
(aS a3 h fun s4=>
(onSome s4.a fun a5=>
(inB p1 s4.len
(aB (Addr.add (Addr.add a5 (Int.toNat p1*5)) 4) h fun b6=>
(bsel (!b6)
(Q none false h)
(onSome p0 fun a7=>
(aS a7 h fun s8=>
(onSome s8.a fun a9=>
(inB p1 s8.len
(Q (some (Addr.add a9 (Int.toNat p1*5))) true h)))))))))))))))
def qav_W (f:qav_T):ArS [.c .p,.c (.i .i64)] EnR:=fun p0 p1 K _Kp=>f p0 p1 (fun r0 r1=>K (.tuple #[(.pointer r0),(.bool r1)]))
abbrev qaw_T:=Option Addr→Int→(Int→AH→Prop)→AP
def qaw_G (f_qav:qav_T) (p0:Option Addr) (p1:Int) (Q:Int→AH→Prop) (h:AH):Prop:=
(f_qav p0 p1 (fun pt1 b2 h3=>
(bsel (!b2)
(Q (0:Int) h3)
(onSome pt1 fun a4=>
(aI .i64 (Addr.add a4 1) h3 fun n5=>
(onSome pt1 fun a6=>
(aI .i64 (Addr.add a6 2) h3 fun n7=>
(onSome pt1 fun a8=>
(aI .i64 (Addr.add a8 3) h3 fun n9=>
(Q (IntKind.wrap .i64 ((IntKind.wrap .i64 (n5-n7))-n9)) h3))))))))) h)
def qaw_A:qaw_T:=qaw_G qav_A
def qaw_W (f:qaw_T):ArS [.c .p,.c (.i .i64)] EnR:=fun p0 p1 K _Kp=>f p0 p1 (fun r0=>K (.int .i64 r0))
abbrev qax_T:=Option Addr→Int→Int→(Int→AH→Prop)→AP
def qax_G (f_qav:qav_T) (f_qaw:qaw_T) (p0:Option Addr) (p1:Int) (p2:Int) (Q:Int→AH→Prop) (h:AH):Prop:=
(f_qav p0 p1 (fun pt1 b2 h3=>
(bsel (!b2)
(Q (5:Int) h3)
(bsel (decide (p2<(0:Int)))
(Q (1:Int) h3)
(f_qaw p0 p1 (fun n4 h5=>
(bsel (decide (p2 > n4))
(Q (8:Int) h5)
(onSome pt1 fun a6=>
(aI .i64 (Addr.add a6 2) h5 fun n7=>
(onSome pt1 fun a8=>
(aC (Addr.add a8 2) (.int .i64 (IntKind.wrap .i64 (n7+p2))) h5 fun h9=>
(Q (0:Int) h9))))))) h3)))) h)
def qax_A:qax_T:=qax_G qav_A qaw_A
def qax_W (f:qax_T):ArS [.c .p,.c (.i .i64),.c (.i .i64)] EnR:=fun p0 p1 p2 K _Kp=>f p0 p1 p2 (fun r0=>K (.int .i64 r0))
abbrev qay_T:=Option Nat→(Option Addr→AH→Prop)→AP
def qay_A (p0:Option Nat) (Q:Option Addr→AH→Prop) (h:AH):Prop:=
(newA h (.cells #[(.map p0)] 111) fun b1 h2=>
(Q (some (Addr.mk b1 0 none)) h2))
def qay_W (f:qay_T):ArS [.c .m] EnR:=fun p0 K _Kp=>f p0 (fun r0=>K (.func (.func 224) #[] #[(.pointer r0)]))
abbrev qaz_T:=Option Addr→(Sl→AH→Prop)→AP
def qaz_A:qaz_T:=clA 3
def qaz_W (f:qaz_T):ArS [.fn 224 [] [.p]] EnR:=fun p0 K _Kp=>f p0 (fun r0=>K (.slice r0.a r0.len r0.cap))
abbrev qba_T:=Sl→(Int→AH→Prop)→AP
def qba_A (p0:Sl) (Q:Int→AH→Prop) (h:AH):Prop:=
(∃ R1:AH→Prop,(∀ h2,R1 h2→
(onSome p0.a fun a3=>
(inB (0:Int) p0.len
(aI .i64 a3 h2 fun n4=>
(∃ I5:Int→Int→Nat→AH→Prop,(∃ m6,I5 n4 (1:Int) m6 h2)∧∀ x9:Int,∀ x10:Int,∀ m6 h8,I5 x9 x10 m6 h8→
(bsel (decide (x10<(Int.ofNat p0.len)))
(onSome p0.a fun a11=>
(inB x10 p0.len
(aI .i64 (Addr.add a11 (Int.toNat x10*1)) h8 fun n12=>
(∃ m7,m7<m6∧I5 (if n12<x9 then n12 else x9) (IntKind.wrap .i64 (x10+(1:Int))) m7 h8))))
(Q x9 h8)))))))∧
(bsel (decide ((Int.ofNat p0.len)<(1:Int)))
False
(R1 h)))
def qba_W (f:qba_T):ArS [.c .s] EnR:=fun p0 K _Kp=>f p0 (fun r0=>K (.int .i64 r0))
abbrev qbb_T:=Option Addr→Int→(Int→Int→AH→Prop)→AP
def qbb_G (f_qay:qay_T) (f_qaz:qaz_T) (f_qba:qba_T) (p0:Option Addr) (p1:Int) (Q:Int→Int→AH→Prop) (h:AH):Prop:=
(∃ R1:AH→Prop,(∀ h2,R1 h2→
(∃ R3:Int→AH→Prop,(∀ x12:Int,∀ h13,R3 x12 h13→
(bsel (decide (x12 > (10:Int)))
(Q (0:Int) (7:Int) h13)
(onSome p0 fun a14=>
(inB x12 11
(aM (Addr.add a14 (Int.toNat x12*1)) h13 fun mp15=>
(f_qay mp15 (fun pt16 h17=>
(f_qaz pt16 (fun s18 h19=>
(f_qba s18 (fun n20 h21=>
(onSome p0 fun a22=>
(inB x12 11
(aM (Addr.add a22 (Int.toNat x12*1)) h21 fun mp23=>
(aMDl h21 mp23 .i64 n20 fun h24=>
(∃ I25:Int→Nat→AH→Prop,(∃ m26,I25 x12 m26 h24)∧∀ x29:Int,∀ m26 h28,I25 x29 m26 h28→
(bsel (decide (x29 > p1))
(onSome p0 fun a30=>
(inB (IntKind.wrap .i64 (x29-(1:Int))) 11
(aM (Addr.add a30 (Int.toNat (IntKind.wrap .i64 (x29-(1:Int)))*1)) h28 fun mp31=>
(bsel (decide ((IntKind.wrap .i64 (x29-(1:Int)))<0)) False
(aMSt h28 mp31 .i64 (IntKind.wrap .i64 (n20+(IntKind.wrap .i64 ((1:Int)*2 ^ (min (Int.toNat (IntKind.wrap .i64 (x29-(1:Int)))) 64))))) (.bool true) fun h32=>
(∃ m27,m27<m26∧I25 (IntKind.wrap .i64 (x29-(1:Int))) m27 h32))))))
(onSome p0 fun a33=>
(aM (Addr.add a33 11) h28 fun mp34=>
(aMSt h28 mp34 .i64 n20 (.int .i64 p1) fun h35=>
(onSome p0 fun a36=>
(aI .i64 (Addr.add a36 12) h35 fun n37=>
(bsel (decide (p1<0)) False
(onSome p0 fun a38=>
(aC (Addr.add a38 12) (.int .i64 (IntKind.wrap .i64 (n37-(IntKind.wrap .i64 ((1:Int)*2 ^ (min (Int.toNat p1) 64)))))) h35 fun h39=>
(Q n20 (0:Int) h39)))))))))))))))) h19)) h17)) h13))))))∧
(∃ I4:Int→Nat→AH→Prop,(∃ m5,I4 p1 m5 h2)∧∀ x8:Int,∀ m5 h7,I4 x8 m5 h7→
(bsel (decide (x8≤(10:Int)))
(onSome p0 fun a9=>
(inB x8 11
(aM (Addr.add a9 (Int.toNat x8*1)) h7 fun mp10=>
(aMLn h7 mp10 fun n11=>
(bsel (n11==(0:Int))
(∃ m6,m6<m5∧I4 (IntKind.wrap .i64 (x8+(1:Int))) m6 h7)
(R3 x8 h7))))))
(R3 x8 h7)))))∧
(bsel (decide (p1<(0:Int)))
(Q (0:Int) (1:Int) h)
(bsel (decide (p1 > (10:Int)))
(Q (0:Int) (1:Int) h)
(R1 h))))
def qbb_A:qbb_T:=qbb_G qay_A qaz_A qba_A
def qbb_W (f:qbb_T):ArS [.c .p,.c (.i .i64)] EnR:=fun p0 p1 K _Kp=>f p0 p1 (fun r0 r1=>K (.tuple #[(.int .i64 r0),(.int .i64 r1)]))
abbrev qbc_T:=Option Addr→Int→(Bool→AH→Prop)→AP
def qbc_A (p0:Option Addr) (p1:Int) (Q:Bool→AH→Prop) (h:AH):Prop:=
(bsel (decide (p1<(0:Int)))
(Q false h)
(onSome p0 fun a1=>
(aI .i64 a1 h fun n2=>
(bsel (decide (p1≥n2))
(Q false h)
(onSome p0 fun a3=>
(aS (Addr.add a3 1) h fun s4=>
(∃ I5:Int→Nat→AH→Prop,(∃ m6,I5 (0:Int) m6 h)∧∀ x9:Int,∀ m6 h8,I5 x9 m6 h8→
(bsel (decide (x9<(Int.ofNat s4.len)))
(onSome s4.a fun a10=>
(inB x9 s4.len
(aI .i64 (Addr.add a10 (Int.toNat x9*2)) h8 fun n11=>
(aI .i64 (Addr.add (Addr.add a10 (Int.toNat x9*2)) 1) h8 fun n12=>
(bsel (decide (p1≥n11))
(bsel (decide (p1<n12))
(Q false h8)
(∃ m7,m7<m6∧I5 (IntKind.wrap .i64 (x9+(1:Int))) m7 h8))
(∃ m7,m7<m6∧I5 (IntKind.wrap .i64 (x9+(1:Int))) m7 h8))))))
(Q true h8)))))))))
def qbc_W (f:qbc_T):ArS [.c .p,.c (.i .i64)] EnR:=fun p0 p1 K _Kp=>f p0 p1 (fun r0=>K (.bool r0))
abbrev qbd_T:=Option Addr→Int→(Int→AH→Prop)→AP
def qbd_G (f_qbc:qbc_T) (p0:Option Addr) (p1:Int) (Q:Int→AH→Prop) (h:AH):Prop:=
(f_qbc p0 p1 (fun b1 h2=>
(bsel (!b1)
(Q (2:Int) h2)
(onSome p0 fun a3=>
(aM (Addr.add a3 2) h2 fun mp4=>
(aMDl h2 mp4 .i64 p1 fun h5=>
(Q (0:Int) h5)))))) h)
def qbd_A:qbd_T:=qbd_G qbc_A
def qbd_W (f:qbd_T):ArS [.c .p,.c (.i .i64)] EnR:=fun p0 p1 K _Kp=>f p0 p1 (fun r0=>K (.int .i64 r0))
abbrev qbe_T:=Option Addr→Int→(Int→AH→Prop)→AP
def qbe_G (f_qaq:qaq_T) (p0:Option Addr) (p1:Int) (Q:Int→AH→Prop) (h:AH):Prop:=
(onSome p0 fun a1=>
(aM (Addr.add a1 11) h fun mp2=>
(aLk h mp2 .i64 p1 fun o3=>
(∃ n4:Int,((o3.getD (.int .i64 (0:Int))):Value)=(.int .i64 n4)∧
(bsel (!o3.isSome)
(Q (5:Int) h)
(onSome p0 fun a5=>
(aM (Addr.add a5 11) h fun mp6=>
(aMDl h mp6 .i64 p1 fun h7=>
(onSome p0 fun a8=>
(aI .i64 (Addr.add a8 12) h7 fun n9=>
(bsel (decide (n4<0)) False
(onSome p0 fun a10=>
(aC (Addr.add a10 12) (.int .i64 (IntKind.wrap .i64 (n9+(IntKind.wrap .i64 ((1:Int)*2 ^ (min (Int.toNat n4) 64)))))) h7 fun h11=>
(f_qaq p0 p1 n4 (fun h12=>
(Q (0:Int) h12)) h11))))))))))))))
def qbe_A:qbe_T:=qbe_G qaq_A
def qbe_W (f:qbe_T):ArS [.c .p,.c (.i .i64)] EnR:=fun p0 p1 K _Kp=>f p0 p1 (fun r0=>K (.int .i64 r0))
abbrev qbf_T:=Option Addr→Int→Int→(Int→AH→Prop)→AP
def qbf_G (f_qav:qav_T) (p0:Option Addr) (p1:Int) (p2:Int) (Q:Int→AH→Prop) (h:AH):Prop:=
(f_qav p0 p1 (fun pt1 b2 h3=>
(bsel (!b2)
(Q (5:Int) h3)
(bsel (decide (p2<(0:Int)))
(Q (1:Int) h3)
(onSome pt1 fun a4=>
(aI .i64 (Addr.add a4 2) h3 fun n5=>
(bsel (decide (p2 > n5))
(Q (1:Int) h3)
(onSome pt1 fun a6=>
(aI .i64 (Addr.add a6 2) h3 fun n7=>
(onSome pt1 fun a8=>
(aC (Addr.add a8 2) (.int .i64 (IntKind.wrap .i64 (n7-p2))) h3 fun h9=>
(Q (0:Int) h9))))))))))) h)
def qbf_A:qbf_T:=qbf_G qav_A
def qbf_W (f:qbf_T):ArS [.c .p,.c (.i .i64),.c (.i .i64)] EnR:=fun p0 p1 p2 K _Kp=>f p0 p1 p2 (fun r0=>K (.int .i64 r0))
abbrev qbg_T:=Option Addr→Option Addr→Option Addr→Int→(Int→Int→AH→Prop)→AP
def qbg_G (f_qax:qax_T) (f_qbb:qbb_T) (f_qbd:qbd_T) (f_qbe:qbe_T) (f_qbf:qbf_T) (p0:Option Addr) (p1:Option Addr) (p2:Option Addr) (p3:Int) (Q:Int→Int→AH→Prop) (h:AH):Prop:=
(f_qax p2 p3 (1:Int) (fun n1 h2=>
(bsel (n1 != (0:Int))
(Q (0:Int) n1 h2)
(f_qbb p1 (0:Int) (fun n3 n4 h5=>
(∃ R6:Int→AH→Prop,(∀ x11:Int,∀ h12,R6 x11 h12→
(f_qbf p2 p3 (1:Int) (fun _ h14=>
(Q (0:Int) x11 h14)) h12))∧
(bsel (n4==(0:Int))
(f_qbd p0 n3 (fun n7 h8=>
(bsel (n7==(0:Int))
(Q n3 (0:Int) h8)
(f_qbe p1 n3 (fun _ h10=>
(R6 n7 h10)) h8))) h5)
(R6 n4 h5)))) h2))) h)
def qbg_A:qbg_T:=qbg_G qax_A qbb_A qbd_A qbe_A qbf_A
def qbg_W (f:qbg_T):ArS [.agg [.p,.p,.p,(.i .i64)]] EnR:=fun p0 p1 p2 p3 K _Kp=>f p0 p1 p2 p3 (fun r0 r1=>K (.tuple #[(.int .i64 r0),(.int .i64 r1)]))
abbrev qbh_T:=Option Addr→(Int→AH→Prop)→AP
def qbh_A (p0:Option Addr) (Q:Int→AH→Prop) (h:AH):Prop:=
(onSome p0 fun a1=>
(aI .i64 a1 h fun n2=>
(Q n2 h)))
def qbh_W (f:qbh_T):ArS [.c .p] EnR:=fun p0 K _Kp=>f p0 (fun r0=>K (.int .i64 r0))
abbrev qbi_T:=Option Addr→Option Addr→Option Addr→Int→Int→(AH→Prop)→AP
def qbi_G (f_qbe:qbe_T) (f_qbf:qbf_T) (_p0:Option Addr) (p1:Option Addr) (p2:Option Addr) (p3:Int) (p4:Int) (Q:AH→Prop) (h:AH):Prop:=
(f_qbe p1 p4 (fun _ h2=>
(f_qbf p2 p3 (1:Int) (fun _ h4=>
(Q h4)) h2)) h)
def qbi_A:qbi_T:=qbi_G qbe_A qbf_A
def qbi_W (f:qbi_T):ArS [.agg [.p,.p,.p,(.i .i64)],.c (.i .i64)] EnR:=fun p0 p1 p2 p3 p4 K _Kp=>f p0 p1 p2 p3 p4 (K (.tuple #[]))
abbrev qbj_T:=Option Addr→(Option Addr→Option Addr→Option Addr→Option Addr→Option Addr→Option Addr→Option Addr→Option Addr→AH→Prop)→AP
def qbj_A (p0:Option Addr) (Q:Option Addr→Option Addr→Option Addr→Option Addr→Option Addr→Option Addr→Option Addr→Option Addr→AH→Prop) (h:AH):Prop:=
(onSome p0 fun a1=>
(onSome p0 fun a2=>
(onSome p0 fun a3=>
(onSome p0 fun a4=>
(onSome p0 fun a5=>
(onSome p0 fun a6=>
(onSome p0 fun a7=>
(onSome p0 fun a8=>
(Q ((some a1):Option Addr) ((some (Addr.add a2 1)):Option Addr) ((some (Addr.add a3 2)):Option Addr) ((some (Addr.add a4 3)):Option Addr) ((some (Addr.add a5 4)):Option Addr) ((some (Addr.add a6 5)):Option Addr) ((some (Addr.add a7 6)):Option Addr) ((some (Addr.add a8 7)):Option Addr) h)))))))))
def qbj_W (f:qbj_T):ArS [.c .p] EnR:=fun p0 K _Kp=>f p0 (fun r0 r1 r2 r3 r4 r5 r6 r7=>K (.agg #[(.pointer r0),(.pointer r1),(.pointer r2),(.pointer r3),(.pointer r4),(.pointer r5),(.pointer r6),(.pointer r7)]))
abbrev qbk_T:=(Int→Int→Int→Int→Int→Int→Int→Int→AH→Prop)→AP
def qbk_A (Q:Int→Int→Int→Int→Int→Int→Int→Int→AH→Prop) (h:AH):Prop:=
(Q (0:Int) (1:Int) (2:Int) (5:Int) (6:Int) (7:Int) (8:Int) (63:Int) h)
def qbk_W (f:qbk_T):ArS [] EnR:=fun  K _Kp=>f  (fun r0 r1 r2 r3 r4 r5 r6 r7=>K (.agg #[(.int .i64 r0),(.int .i64 r1),(.int .i64 r2),(.int .i64 r3),(.int .i64 r4),(.int .i64 r5),(.int .i64 r6),(.int .i64 r7)]))
abbrev qbl_T:=Bool→Bool→Bool→Bool→Bool→Bool→Bool→Bool→Int→(Int→Int→AH→Prop)→AP
def qbl_G (f_qbj:qbj_T) (f_qbk:qbk_T) (p0:Bool) (p1:Bool) (p2:Bool) (p3:Bool) (p4:Bool) (p5:Bool) (p6:Bool) (p7:Bool) (p8:Int) (Q:Int→Int→AH→Prop) (h:AH):Prop:=
(newA h (.cells #[(.bool p0),(.bool p1),(.bool p2),(.bool p3),(.bool p4),(.bool p5),(.bool p6),(.bool p7),(.int .i64 p8)] 193) fun b1 h2=>
(∃ R3:AH→Prop,(∀ h6,R3 h6→
(aI .i64 (Addr.add (Addr.mk b1 0 none) 8) h6 fun n7=>
(f_qbj (some (Addr.mk b1 0 none)) (fun pt8 pt9 pt10 pt11 pt12 pt13 pt14 pt15 h16=>
(∃ I17:Int→Int→Nat→AH→Prop,(∃ m18,I17 (IntKind.wrap .u64 ((IntKind.wrap .u64 n7)*2 ^ (12:Nat))) (0:Int) m18 h16)∧∀ x21:Int,∀ x22:Int,∀ m18 h20,I17 x21 x22 m18 h20→
(bsel (decide (x22<(8:Int)))
(∃ R23:Int→AH→Prop,(∀ x37:Int,∀ h38,R23 x37 h38→
(∃ m19,m19<m18∧I17 x37 (IntKind.wrap .i64 (x22+(1:Int))) m19 h38))∧
(inB x22 8
(geP [(.pointer pt8),(.pointer pt9),(.pointer pt10),(.pointer pt11),(.pointer pt12),(.pointer pt13),(.pointer pt14),(.pointer pt15)] (Int.toNat x22) fun n24=>
(onSome n24 fun a25=>
(aB a25 h20 fun b26=>
(bsel b26
(f_qbk (fun n27 n28 n29 n30 n31 n32 n33 n34 h35=>
(inB x22 8
(geI .i64 [(.int .i64 n27),(.int .i64 n28),(.int .i64 n29),(.int .i64 n30),(.int .i64 n31),(.int .i64 n32),(.int .i64 n33),(.int .i64 n34)] (Int.toNat x22) fun n36=>
(bsel (decide (n36<0)) False
(R23 (bits .or .u64 x21 (IntKind.wrap .u64 ((1:Int)*2 ^ (min (Int.toNat n36) 64)))) h35))))) h20)
(R23 x21 h20)))))))
(Q x21 (0:Int) h20)))) h6)))∧
(aI .i64 (Addr.add (Addr.mk b1 0 none) 8) h2 fun n4=>
(bsel (decide (n4<(0:Int)))
(Q (0:Int) (1:Int) h2)
(aI .i64 (Addr.add (Addr.mk b1 0 none) 8) h2 fun n5=>
(bsel (decide (n5≥(1048576:Int)))
(Q (0:Int) (1:Int) h2)
(R3 h2)))))))
def qbl_A:qbl_T:=qbl_G qbj_A qbk_A
def qbl_W (f:qbl_T):ArS [.agg [.b,.b,.b,.b,.b,.b,.b,.b,(.i .i64)]] EnR:=fun p0 p1 p2 p3 p4 p5 p6 p7 p8 K _Kp=>f p0 p1 p2 p3 p4 p5 p6 p7 p8 (fun r0 r1=>K (.tuple #[(.int .u64 r0),(.int .i64 r1)]))
abbrev qbm_T:=Int→Int→(Int→AH→Prop)→AP
def qbm_A (p0:Int) (p1:Int) (Q:Int→AH→Prop) (h:AH):Prop:=
(Q (IntKind.wrap .u64 ((IntKind.wrap .u64 ((IntKind.wrap .u64 p0)*(4096:Int)))+(IntKind.wrap .u64 (IntKind.wrap .i64 ((8:Int)*p1))))) h)
def qbm_W (f:qbm_T):ArS [.c (.i .i64),.c (.i .i64)] EnR:=fun p0 p1 K _Kp=>f p0 p1 (fun r0=>K (.int .u64 r0))
abbrev qbn_T:=Option Addr→Int→Int→(Int→AH→Prop)→AP
def qbn_G (f_qbc:qbc_T) (p0:Option Addr) (p1:Int) (p2:Int) (Q:Int→AH→Prop) (h:AH):Prop:=
(∃ R1:Bool→AH→Prop,(∀ b2:Bool,∀ h3,R1 b2 h3→
(bsel b2
(bsel (decide ((IntKind.wrap .u64 ((IntKind.wrap .u64 (p1+(IntKind.wrap .u64 p2)))-(1:Int)))<p1))
(Q (2:Int) h3)
(onSome p0 fun a4=>
(aI .i64 a4 h3 fun n5=>
(bsel (decide ((IntKind.wrap .u64 (Int.tdiv (IntKind.wrap .u64 ((IntKind.wrap .u64 (p1+(IntKind.wrap .u64 p2)))-(1:Int))) (4096:Int)))≥(IntKind.wrap .u64 n5)))
(Q (2:Int) h3)
(f_qbc p0 (IntKind.wrap .i64 (IntKind.wrap .u64 (Int.tdiv p1 (4096:Int)))) (fun b6 h7=>
(bsel (!b6)
(Q (2:Int) h7)
(f_qbc p0 (IntKind.wrap .i64 (IntKind.wrap .u64 (Int.tdiv (IntKind.wrap .u64 ((IntKind.wrap .u64 (p1+(IntKind.wrap .u64 p2)))-(1:Int))) (4096:Int)))) (fun b8 h9=>
(bsel (!b8)
(Q (2:Int) h9)
(Q (0:Int) h9))) h7))) h3)))))
(Q (1:Int) h3)))∧
(bsel (p2==(1:Int))
(R1 (p2==(1:Int)) h)
(bsel (p2==(2:Int))
(R1 (p2==(2:Int)) h)
(bsel (p2==(4:Int))
(R1 (p2==(4:Int)) h)
(R1 (p2==(8:Int)) h)))))
def qbn_A:qbn_T:=qbn_G qbc_A
def qbn_W (f:qbn_T):ArS [.c .p,.c (.i .u64),.c (.i .i64)] EnR:=fun p0 p1 p2 K _Kp=>f p0 p1 p2 (fun r0=>K (.int .i64 r0))
abbrev qbo_T:=Option Addr→Int→(Option Addr→AH→Prop)→AP
def qbo_A (p0:Option Addr) (p1:Int) (Q:Option Addr→AH→Prop) (h:AH):Prop:=
(onSome p0 fun a1=>
(aM (Addr.add a1 2) h fun mp2=>
(aLk h mp2 .i64 p1 fun o3=>
(∃ pt4:Option Addr,((o3.getD (.pointer none)):Value)=(.pointer pt4)∧
(∃ R5:Option Addr→AH→Prop,(∀ pt11:Option Addr,∀ h12,R5 pt11 h12→
(Q pt11 h12))∧
(bsel pt4.isNone
(newA h (.cells (Array.replicate 4096 (.int .u8 (0:Int))) 326) fun b6 h7=>
(onSome p0 fun a8=>
(aM (Addr.add a8 2) h7 fun mp9=>
(aMSt h7 mp9 .i64 p1 (.pointer (some (Addr.mk b6 0 none))) fun h10=>
(R5 (some (Addr.mk b6 0 none)) h10)))))
(R5 pt4 h)))))))
def qbo_W (f:qbo_T):ArS [.c .p,.c (.i .i64)] EnR:=fun p0 p1 K _Kp=>f p0 p1 (fun r0=>K (.pointer r0))
abbrev qbp_T:=Option Addr→Int→Int→Int→(Int→AH→Prop)→AP
def qbp_G (f_qbn:qbn_T) (f_qbo:qbo_T) (p0:Option Addr) (p1:Int) (p2:Int) (p3:Int) (Q:Int→AH→Prop) (h:AH):Prop:=
(f_qbn p0 p1 p2 (fun n1 h2=>
(bsel (n1 != (0:Int))
(Q n1 h2)
(∃ I3:Int→Nat→AH→Prop,(∃ m4,I3 (0:Int) m4 h2)∧∀ x7:Int,∀ m4 h6,I3 x7 m4 h6→
(bsel (decide (x7<p2))
(bsel (decide ((IntKind.wrap .i64 ((8:Int)*x7))<0)) False
(f_qbo p0 (IntKind.wrap .i64 (IntKind.wrap .u64 (Int.tdiv (IntKind.wrap .u64 (p1+(IntKind.wrap .u64 x7))) (4096:Int)))) (fun pt8 h9=>
(onSome pt8 fun a10=>
(inB (Int.tmod (IntKind.wrap .u64 (p1+(IntKind.wrap .u64 x7))) (4096:Int)) 4096
(aC (Addr.add a10 (Int.toNat (Int.tmod (IntKind.wrap .u64 (p1+(IntKind.wrap .u64 x7))) (4096:Int))*1)) (.int .u8 (IntKind.wrap .u8 (Int.fdiv p3 (2 ^ (min (Int.toNat (IntKind.wrap .i64 ((8:Int)*x7))) 64))))) h9 fun h11=>
(∃ m5,m5<m4∧I3 (IntKind.wrap .i64 (x7+(1:Int))) m5 h11))))) h6))
(Q (0:Int) h6))))) h)
def qbp_A:qbp_T:=qbp_G qbn_A qbo_A
def qbp_W (f:qbp_T):ArS [.c .p,.c (.i .u64),.c (.i .i64),.c (.i .u64)] EnR:=fun p0 p1 p2 p3 K _Kp=>f p0 p1 p2 p3 (fun r0=>K (.int .i64 r0))
abbrev qbq_T:=Option Addr→Option Addr→Option Addr→Int→Int→Int→Bool→Bool→Bool→Bool→Bool→Bool→Bool→Bool→Int→(AH→Prop)→AP
def qbq_G (f_qbl:qbl_T) (f_qbm:qbm_T) (f_qbp:qbp_T) (p0:Option Addr) (_p1:Option Addr) (_p2:Option Addr) (_p3:Int) (p4:Int) (p5:Int) (p6:Bool) (p7:Bool) (p8:Bool) (p9:Bool) (p10:Bool) (p11:Bool) (p12:Bool) (p13:Bool) (p14:Int) (Q:AH→Prop) (h:AH):Prop:=
(f_qbl p6 p7 p8 p9 p10 p11 p12 p13 p14 (fun n1 _ h3=>
(f_qbm p4 p5 (fun n4 h5=>
(f_qbp p0 n4 (8:Int) n1 (fun _ h7=>
(Q h7)) h5)) h3)) h)
def qbq_A:qbq_T:=qbq_G qbl_A qbm_A qbp_A
def qbq_W (f:qbq_T):ArS [.agg [.p,.p,.p,(.i .i64)],.c (.i .i64),.c (.i .i64),.agg [.b,.b,.b,.b,.b,.b,.b,.b,(.i .i64)]] EnR:=fun p0 p1 p2 p3 p4 p5 p6 p7 p8 p9 p10 p11 p12 p13 p14 K _Kp=>f p0 p1 p2 p3 p4 p5 p6 p7 p8 p9 p10 p11 p12 p13 p14 (K (.tuple #[]))
abbrev qbr_T:=Option Addr→Option Addr→Option Addr→Int→(Int→Int→AH→Prop)→AP
def qbr_G (f_qbg:qbg_T) (f_qbh:qbh_T) (f_qbi:qbi_T) (f_qbq:qbq_T) (p0:Option Addr) (p1:Option Addr) (p2:Option Addr) (p3:Int) (Q:Int→Int→AH→Prop) (h:AH):Prop:=
(f_qbg p0 p1 p2 p3 (fun n1 n2 h3=>
(bsel (n2 != (0:Int))
(Q (0:Int) n2 h3)
(newA h3 (.cells #[(.int .i64 n1)] 3) fun b4 h5=>
(∃ I6:Sl→Int→Nat→AH→Prop,(∃ m7,I6 (Sl.mk (some (Addr.mk b4 0 none)) 1 1) (0:Int) m7 h5)∧∀ s10:Sl,∀ x11:Int,∀ m7 h9,I6 s10 x11 m7 h9→
(f_qbh p0 (fun n12 h13=>
(bsel (decide (x11<n12))
(f_qbg p0 p1 p2 p3 (fun n14 n15 h16=>
(bsel (n15 != (0:Int))
(∃ I17:Int→Nat→AH→Prop,(∃ m18,I17 (0:Int) m18 h16)∧∀ x21:Int,∀ m18 h20,I17 x21 m18 h20→
(bsel (decide (x21<(Int.ofNat s10.len)))
(onSome s10.a fun a22=>
(inB x21 s10.len
(aI .i64 (Addr.add a22 (Int.toNat x21*1)) h20 fun n23=>
(f_qbi p0 p1 p2 p3 n23 (fun h24=>
(∃ m19,m19<m18∧I17 (IntKind.wrap .i64 (x21+(1:Int))) m19 h24)) h20))))
(Q (0:Int) n15 h20)))
(newA h16 (.cells #[(.int .i64 n14)] 3) fun b25 h26=>
(apA 1 8 #[(.int .i64 (0:Int))] 3 s10 (Sl.mk (some (Addr.mk b25 0 none)) 1 1) h26 fun s27 h28=>
(f_qbq p0 p1 p2 p3 n1 (Int.fdiv x11 (2 ^ (18:Nat))) true true false false false false false false n14 (fun h29=>
(∃ I30:Int→Nat→AH→Prop,(∃ m31,I30 (0:Int) m31 h29)∧∀ x34:Int,∀ m31 h33,I30 x34 m31 h33→
(bsel (decide (x34<(512:Int)))
(f_qbh p0 (fun n35 h36=>
(bsel (decide ((IntKind.wrap .i64 (x11+(IntKind.wrap .i64 (x34*2 ^ (9:Nat)))))<n35))
(f_qbq p0 p1 p2 p3 n14 x34 true true false false false true true true (IntKind.wrap .i64 (x11+(IntKind.wrap .i64 (x34*2 ^ (9:Nat))))) (fun h37=>
(∃ m32,m32<m31∧I30 (IntKind.wrap .i64 (x34+(1:Int))) m32 h37)) h36)
(∃ m8,m8<m7∧I6 s27 (IntKind.wrap .i64 (x11+(262144:Int))) m8 h36))) h33)
(∃ m8,m8<m7∧I6 s27 (IntKind.wrap .i64 (x11+(262144:Int))) m8 h33)))) h28))))) h13)
(Q n1 (0:Int) h13))) h9))))) h)
def qbr_A:qbr_T:=qbr_G qbg_A qbh_A qbi_A qbq_A
def qbr_W (f:qbr_T):ArS [.agg [.p,.p,.p,(.i .i64)]] EnR:=fun p0 p1 p2 p3 K _Kp=>f p0 p1 p2 p3 (fun r0 r1=>K (.tuple #[(.int .i64 r0),(.int .i64 r1)]))
abbrev qbs_T:=Int→Int→Int→Int→Sl→(Option Addr→Int→AH→Prop)→AP
def qbs_G (f_qam:qam_T) (f_qao:qao_T) (f_qap:qap_T) (f_qar:qar_T) (f_qas:qas_T) (f_qat:qat_T) (f_qau:qau_T) (f_qbr:qbr_T) (p0:Int) (p1:Int) (p2:Int) (p3:Int) (p4:Sl) (Q:Option Addr→Int→AH→Prop) (h:AH):Prop:=
(f_qam p4 p0 p1 p2 (fun s1 n2 h3=>
(bsel (n2 != (0:Int))
(Q none n2 h3)
(f_qao p3 (fun pt4 n5 h6=>
(bsel (n5 != (0:Int))
(Q none n5 h6)
(newA h6 (.cells #[(.bool false),(.int .i64 (0:Int)),(.int .i64 (0:Int)),(.int .i64 (0:Int)),(.bool false),(.bool false),(.bool false),(.bool false),(.bool false),(.bool false),(.int .i64 (0:Int)),(.int .i64 (0:Int)),(.int .i64 (0:Int)),(.bool false),(.bool false),(.bool false),(.bool false),(.bool false),(.bool false),(.int .i64 (0:Int)),(.int .i64 (0:Int)),(.int .i64 (0:Int)),(.bool false),(.bool false),(.bool false),(.bool false),(.bool false),(.bool false),(.int .i64 (0:Int)),(.int .i64 (0:Int)),(.int .i64 (0:Int)),(.bool false),(.bool false),(.bool false),(.bool false),(.bool false),(.bool false),(.int .i64 (0:Int)),(.int .i64 (0:Int)),(.int .i64 (0:Int)),(.bool false),(.bool false),(.bool false),(.bool false),(.bool false),(.bool false),(.int .i64 (0:Int)),(.int .i64 (0:Int)),(.int .i64 (0:Int)),(.bool false),(.bool false),(.bool false),(.bool false),(.bool false),(.bool false),(.int .i64 (0:Int)),(.int .i64 (0:Int)),(.int .i64 (0:Int)),(.bool false),(.bool false),(.bool false),(.bool false),(.bool false),(.bool false),(.int .i64 (0:Int)),(.int .i64 (0:Int)),(.int .i64 (0:Int)),(.bool false),(.bool false),(.bool false),(.bool false),(.bool false),(.bool false),(.int .i64 (0:Int)),(.int .i64 (0:Int)),(.int .i64 (0:Int)),(.bool false),(.bool false),(.bool false),(.bool false),(.bool false),(.bool false),(.int .i64 (0:Int)),(.int .i64 (0:Int)),(.int .i64 (0:Int)),(.bool false),(.bool false),(.bool false),(.bool false),(.bool false),(.bool false),(.int .i64 (0:Int)),(.int .i64 (0:Int)),(.int .i64 (0:Int)),(.bool false),(.bool false),(.bool false),(.bool false),(.bool false),(.bool false),(.int .i64 (0:Int)),(.int .i64 (0:Int)),(.int .i64 (0:Int)),(.bool false),(.bool false),(.bool false),(.bool false),(.bool false),(.bool false),(.int .i64 (0:Int)),(.int .i64 (0:Int)),(.int .i64 (0:Int)),(.bool false),(.bool false),(.bool false),(.bool false),(.bool false),(.bool false),(.int .i64 (0:Int)),(.int .i64 (0:Int)),(.int .i64 (0:Int)),(.bool false),(.bool false),(.bool false),(.bool false),(.bool false),(.bool false),(.int .i64 (0:Int)),(.int .i64 (0:Int)),(.int .i64 (0:Int)),(.bool false),(.bool false),(.bool false),(.bool false),(.bool false),(.bool false),(.int .i64 (0:Int)),(.int .i64 (0:Int)),(.int .i64 (0:Int)),(.bool false),(.bool false),(.bool false),(.bool false),(.bool false)] 139) fun b7 h8=>
(newA h8 (.map #[] 0) fun b9 h10=>
(newA h10 (.cells #[(.pointer none),(.pointer none),(.pointer none),(.pointer (some (Addr.mk b7 0 none))),(.pointer pt4),(.int .i64 (0:Int)),(.map (some b9))] 62) fun b11 h12=>
(f_qap p0 Sl.nil (fun pt13 _ h15=>
(aC (Addr.mk b11 0 none) (.pointer pt13) h15 fun h16=>
(f_qar s1 (fun pt17 n18 h19=>
(aC (Addr.add (Addr.mk b11 0 none) 1) (.pointer pt17) h19 fun h20=>
(bsel (n18 != (0:Int))
(Q none n18 h20)
(aP (Addr.add (Addr.mk b11 0 none) 1) h20 fun pt21=>
(f_qas pt21 (fun n22 h23=>
(f_qat n22 (fun pt24 _ h26=>
(aC (Addr.add (Addr.mk b11 0 none) 2) (.pointer pt24) h26 fun h27=>
(f_qau (some (Addr.mk b11 0 none)) (0:Int) (fun pt28 pt29 pt30 n31 h32=>
(f_qbr pt28 pt29 pt30 n31 (fun n33 n34 h35=>
(aC (Addr.add (Addr.mk b11 0 none) 5) (.int .i64 n33) h35 fun h36=>
(bsel (n34 != (0:Int))
(Q none n34 h36)
(Q (some (Addr.mk b11 0 none)) (0:Int) h36)))) h32)) h27))) h23)) h20))))) h16))) h12)))))) h3))) h)
def qbs_A:qbs_T:=qbs_G qam_A qao_A qap_A qar_A qas_A qat_A qau_A qbr_A
def qbs_W (f:qbs_T):ArS [.agg [(.i .i64),(.i .i64),(.i .i64),(.i .i64),.s]] EnR:=fun p0 p1 p2 p3 p4 K _Kp=>f p0 p1 p2 p3 p4 (fun r0 r1=>K (.tuple #[(.pointer r0),(.int .i64 r1)]))
abbrev qbt_T:=Int→(Option Addr→Int→AH→Prop)→AP
def qbt_A (p0:Int) (Q:Option Addr→Int→AH→Prop) (h:AH):Prop:=
(bsel (decide (p0<(1:Int)))
(Q none (1:Int) h)
(bsel (decide (p0 > (1000:Int)))
(Q none (1:Int) h)
(newA h (.cells #[(.int .i64 p0),(.int .i64 (0:Int)),(.slice none 0 0)] 148) fun b1 h2=>
(Q (some (Addr.mk b1 0 none)) (0:Int) h2))))
def qbt_W (f:qbt_T):ArS [.c (.i .i64)] EnR:=fun p0 K _Kp=>f p0 (fun r0 r1=>K (.tuple #[(.pointer r0),(.int .i64 r1)]))
abbrev qbu_T:=Option Addr→Sl→(Option Addr→AH→Prop)→AP
def qbu_A (p0:Option Addr) (p1:Sl) (Q:Option Addr→AH→Prop) (h:AH):Prop:=
(apA 1 8 #[(.int .i64 (0:Int))] 3 Sl.nil p1 h fun s1 h2=>
(newA h2 (.cells #[(.pointer p0),(.slice s1.a s1.len s1.cap),(.int .i64 (0:Int))] 107) fun b3 h4=>
(Q (some (Addr.mk b3 0 none)) h4)))
def qbu_W (f:qbu_T):ArS [.c .p,.c .s] EnR:=fun p0 p1 K _Kp=>f p0 p1 (fun r0=>K (.pointer r0))
abbrev qbv_T:=Int→Int→Int→Int→Bool→(Bool→AH→Prop)→AP
def qbv_A (_p0:Int) (_p1:Int) (_p2:Int) (_p3:Int) (p4:Bool) (Q:Bool→AH→Prop) (h:AH):Prop:=
(Q (!p4) h)
def qbv_W (f:qbv_T):ArS [.agg [(.i .i64),(.i .i64),(.i .i64),(.i .i64),.b]] EnR:=fun p0 p1 p2 p3 p4 K _Kp=>f p0 p1 p2 p3 p4 (fun r0=>K (.bool r0))
abbrev qbw_T:=Sl→(Int→AH→Prop)→AP
def qbw_G (f_qbv:qbv_T) (p0:Sl) (Q:Int→AH→Prop) (h:AH):Prop:=
(∃ I1:Int→Nat→AH→Prop,(∃ m2,I1 (0:Int) m2 h)∧∀ x5:Int,∀ m2 h4,I1 x5 m2 h4→
(bsel (decide (x5<(Int.ofNat p0.len)))
(onSome p0.a fun a6=>
(inB x5 p0.len
(aI .i64 (Addr.add a6 (Int.toNat x5*5)) h4 fun n7=>
(aI .i64 (Addr.add (Addr.add a6 (Int.toNat x5*5)) 1) h4 fun n8=>
(aI .i64 (Addr.add (Addr.add a6 (Int.toNat x5*5)) 2) h4 fun n9=>
(aI .i64 (Addr.add (Addr.add a6 (Int.toNat x5*5)) 3) h4 fun n10=>
(aB (Addr.add (Addr.add a6 (Int.toNat x5*5)) 4) h4 fun b11=>
(f_qbv n7 n8 n9 n10 b11 (fun b12 h13=>
(bsel b12
(Q x5 h13)
(∃ m3,m3<m2∧I1 (IntKind.wrap .i64 (x5+(1:Int))) m3 h13))) h4))))))))
(Q (-1:Int) h4)))
def qbw_A:qbw_T:=qbw_G qbv_A
def qbw_W (f:qbw_T):ArS [.c .s,.fn 92 [] []] EnR:=fun p0 K _Kp=>f p0 (fun r0=>K (.int .i64 r0))
abbrev qbx_T:=Sl→(Sl→AH→Prop)→AP
def qbx_A (p0:Sl) (Q:Sl→AH→Prop) (h:AH):Prop:=
(bsel (Option.isNone p0.a)
(Q Sl.nil h)
(newA h (.cells #[] 104) fun b1 h2=>
(apA 5 40 #[(.int .i64 (0:Int)),(.int .i64 (0:Int)),(.int .i64 (0:Int)),(.int .i64 (0:Int)),(.bool false)] 104 (Sl.mk (some (Addr.mk b1 0 none)) 0 0) p0 h2 fun s3 h4=>
(Q s3 h4))))
def qbx_W (f:qbx_T):ArS [.c .s] EnR:=fun p0 K _Kp=>f p0 (fun r0=>K (.slice r0.a r0.len r0.cap))
abbrev qby_T:=Option Addr→Int→Int→(Int→Int→AH→Prop)→AP
def qby_G (f_qav:qav_T) (f_qaw:qaw_T) (f_qbw:qbw_T) (f_qbx:qbx_T) (p0:Option Addr) (p1:Int) (p2:Int) (Q:Int→Int→AH→Prop) (h:AH):Prop:=
(f_qav p0 p1 (fun pt1 b2 h3=>
(bsel (!b2)
(Q (0:Int) (5:Int) h3)
(bsel (decide (p2<(0:Int)))
(Q (0:Int) (1:Int) h3)
(f_qaw p0 p1 (fun n4 h5=>
(bsel (decide (p2 > n4))
(Q (0:Int) (8:Int) h5)
(onSome p0 fun a6=>
(aS a6 h5 fun s7=>
(f_qbw s7 (fun n8 h9=>
(∃ R10:AH→Prop,(∀ h13,R10 h13→
(onSome pt1 fun a14=>
(aI .i64 (Addr.add a14 3) h13 fun n15=>
(onSome pt1 fun a16=>
(aC (Addr.add a16 3) (.int .i64 (IntKind.wrap .i64 (n15+p2))) h13 fun h17=>
(bsel (decide (n8<(0:Int)))
(onSome p0 fun a18=>
(aS a18 h17 fun s19=>
((f_qbx s19 (fun s20 h21=>
(newA h21 (.cells #[(.int .i64 p1),(.int .i64 p2),(.int .i64 (0:Int)),(.int .i64 (0:Int)),(.bool (true:Bool))] 104) fun b22 h23=>
(apA 5 40 #[(.int .i64 (0:Int)),(.int .i64 (0:Int)),(.int .i64 (0:Int)),(.int .i64 (0:Int)),(.bool false)] 104 s20 (Sl.mk (some (Addr.mk b22 0 none)) 1 1) h23 fun s24 h25=>
(onSome p0 fun a26=>
(aC a26 (.slice s24.a s24.len s24.cap) h25 fun h27=>
(onSome p0 fun a28=>
(aS a28 h27 fun s29=>
(Q (IntKind.wrap .i64 ((Int.ofNat s29.len)-(1:Int))) (0:Int) h27)))))))) h17)∧
(newA h17 (.cells #[(.int .i64 p1),(.int .i64 p2),(.int .i64 (0:Int)),(.int .i64 (0:Int)),(.bool (true:Bool))] 104) fun b30 h31=>
((aS a18 h31 fun s32=>
(((.slice s32.a s32.len s32.cap):Value)=(.slice s19.a s19.len s19.cap)))∧
(f_qbx s19 (fun s33 h34=>
(apA 5 40 #[(.int .i64 (0:Int)),(.int .i64 (0:Int)),(.int .i64 (0:Int)),(.int .i64 (0:Int)),(.bool false)] 104 s33 (Sl.mk (some (Addr.mk b30 0 none)) 1 1) h34 fun s35 h36=>
(onSome p0 fun a37=>
(aC a37 (.slice s35.a s35.len s35.cap) h36 fun h38=>
(onSome p0 fun a39=>
(aS a39 h38 fun s40=>
(Q (IntKind.wrap .i64 ((Int.ofNat s40.len)-(1:Int))) (0:Int) h38))))))) h31))))))
(onSome p0 fun a41=>
(aS a41 h17 fun s42=>
(onSome s42.a fun a43=>
(inB n8 s42.len
(aC (Addr.add a43 (Int.toNat n8*5)) (.int .i64 p1) h17 fun h44=>
(aC (Addr.add (Addr.add a43 (Int.toNat n8*5)) 1) (.int .i64 p2) h44 fun h45=>
(aC (Addr.add (Addr.add a43 (Int.toNat n8*5)) 2) (.int .i64 (0:Int)) h45 fun h46=>
(aC (Addr.add (Addr.add a43 (Int.toNat n8*5)) 3) (.int .i64 (0:Int)) h46 fun h47=>
(aC (Addr.add (Addr.add a43 (Int.toNat n8*5)) 4) (.bool (true:Bool)) h47 fun h48=>
(Q n8 (0:Int) h48))))))))))))))))∧
(bsel (decide (n8<(0:Int)))
(onSome p0 fun a11=>
(aS a11 h9 fun s12=>
(bsel (decide ((Int.ofNat s12.len)≥(64:Int)))
(Q (0:Int) (4:Int) h9)
(R10 h9))))
(R10 h9)))) h5))))) h3)))) h)
def qby_A:qby_T:=qby_G qav_A qaw_A qbw_A qbx_A
def qby_W (f:qby_T):ArS [.c .p,.c (.i .i64),.c (.i .i64)] EnR:=fun p0 p1 p2 K _Kp=>f p0 p1 p2 (fun r0 r1=>K (.tuple #[(.int .i64 r0),(.int .i64 r1)]))
abbrev qbz_T:=Option Addr→Option Addr→Option Addr→Int→Int→(Int→Int→AH→Prop)→AP
def qbz_G (f_qbg:qbg_T) (f_qbq:qbq_T) (p0:Option Addr) (p1:Option Addr) (p2:Option Addr) (p3:Int) (p4:Int) (Q:Int→Int→AH→Prop) (h:AH):Prop:=
(f_qbg p0 p1 p2 p3 (fun n1 n2 h3=>
(bsel (n2 != (0:Int))
(Q (0:Int) n2 h3)
(f_qbq p0 p1 p2 p3 n1 (256:Int) true true false false false false false false p4 (fun h4=>
(Q n1 (0:Int) h4)) h3))) h)
def qbz_A:qbz_T:=qbz_G qbg_A qbq_A
def qbz_W (f:qbz_T):ArS [.agg [.p,.p,.p,(.i .i64)],.c (.i .i64)] EnR:=fun p0 p1 p2 p3 p4 K _Kp=>f p0 p1 p2 p3 p4 (fun r0 r1=>K (.tuple #[(.int .i64 r0),(.int .i64 r1)]))
abbrev qca_T:=Option Addr→Int→Int→(Int→AH→Prop)→AP
def qca_G (f_qau:qau_T) (f_qbz:qbz_T) (p0:Option Addr) (p1:Int) (p2:Int) (Q:Int→AH→Prop) (h:AH):Prop:=
(bsel (decide (p1<(0:Int)))
(Q (1:Int) h)
(onSome p0 fun a1=>
(aM (Addr.add a1 6) h fun mp2=>
(aLk h mp2 .i64 p1 fun o3=>
(∃ pt4:Option Addr,((o3.getD (.pointer none)):Value)=(.pointer pt4)∧
(bsel (!pt4.isNone)
(Q (6:Int) h)
(onSome p0 fun a5=>
(aI .i64 (Addr.add a5 5) h fun n6=>
(f_qau p0 p2 (fun pt7 pt8 pt9 n10 h11=>
((aI .i64 (Addr.add a5 5) h11 fun n12=>
(((.int .i64 n12):Value)=(.int .i64 n6)))∧
(f_qbz pt7 pt8 pt9 n10 n6 (fun n13 n14 h15=>
(bsel (n14 != (0:Int))
(Q n14 h15)
(onSome p0 fun a16=>
(aM (Addr.add a16 6) h15 fun mp17=>
(newA h15 (.map #[] 0) fun b18 h19=>
(newA h19 (.cells #[(.int .i64 p2),(.int .i64 n13),(.slice none 0 0),(.map (some b18))] 129) fun b20 h21=>
(aMSt h21 mp17 .i64 p1 (.pointer (some (Addr.mk b20 0 none))) fun h22=>
(Q (0:Int) h22)))))))) h11))) h)))))))))
def qca_A:qca_T:=qca_G qau_A qbz_A
def qca_W (f:qca_T):ArS [.c .p,.c (.i .i64),.c (.i .i64)] EnR:=fun p0 p1 p2 K _Kp=>f p0 p1 p2 (fun r0=>K (.int .i64 r0))
abbrev qcb_T:=Option Addr→Int→(Int→AH→Prop)→AP
def qcb_A:qcb_T:=fun _ _ _ _=>False
def qcb_W (f:qcb_T):ArS [.c .p,.c (.i .i64)] EnR:=fun p0 p1 K _Kp=>f p0 p1 (fun r0=>K (.int .i64 r0))
abbrev qcc_T:=Sl→Int→(Int→AH→Prop)→AP
def qcc_A (p0:Sl) (p1:Int) (Q:Int→AH→Prop) (h:AH):Prop:=
(∃ I1:Int→Nat→AH→Prop,(∃ m2,I1 (0:Int) m2 h)∧∀ x5:Int,∀ m2 h4,I1 x5 m2 h4→
(bsel (decide (x5<(Int.ofNat p0.len)))
(onSome p0.a fun a6=>
(inB x5 p0.len
(aI .i64 (Addr.add a6 (Int.toNat x5*1)) h4 fun n7=>
(bsel (p1==n7)
(Q x5 h4)
(∃ m3,m3<m2∧I1 (IntKind.wrap .i64 (x5+(1:Int))) m3 h4)))))
(Q (-1:Int) h4)))
def qcc_W (f:qcc_T):ArS [.c .s,.c (.i .i64)] EnR:=fun p0 p1 K _Kp=>f p0 p1 (fun r0=>K (.int .i64 r0))
abbrev qcd_T:=Sl→Int→(Bool→AH→Prop)→AP
def qcd_G (f_qcc:qcc_T) (p0:Sl) (p1:Int) (Q:Bool→AH→Prop) (h:AH):Prop:=
(f_qcc p0 p1 (fun n1 h2=>
(Q (decide (n1≥(0:Int))) h2)) h)
def qcd_A:qcd_T:=qcd_G qcc_A
def qcd_W (f:qcd_T):ArS [.c .s,.c (.i .i64)] EnR:=fun p0 p1 K _Kp=>f p0 p1 (fun r0=>K (.bool r0))
abbrev qce_T:=Sl→(Sl→AH→Prop)→AP
def qce_A (p0:Sl) (Q:Sl→AH→Prop) (h:AH):Prop:=
(bsel (Option.isNone p0.a)
(Q Sl.nil h)
(newA h (.cells #[] 3) fun b1 h2=>
(apA 1 8 #[(.int .i64 (0:Int))] 3 (Sl.mk (some (Addr.mk b1 0 none)) 0 0) p0 h2 fun s3 h4=>
(Q s3 h4))))
def qce_W (f:qce_T):ArS [.c .s] EnR:=fun p0 K _Kp=>f p0 (fun r0=>K (.slice r0.a r0.len r0.cap))
abbrev qcf_T:=Option Addr→Int→(Int→AH→Prop)→AP
def qcf_G (f_qcd:qcd_T) (f_qce:qce_T) (p0:Option Addr) (p1:Int) (Q:Int→AH→Prop) (h:AH):Prop:=
(∃ R1:Bool→AH→Prop,(∀ b2:Bool,∀ h3,R1 b2 h3→
(bsel b2
(Q (1:Int) h3)
(onSome p0 fun a4=>
(aS (Addr.add a4 2) h3 fun s5=>
(f_qcd s5 p1 (fun b6 h7=>
(bsel b6
(Q (6:Int) h7)
(onSome p0 fun a8=>
(aS (Addr.add a8 2) h7 fun s9=>
(f_qce s9 (fun s10 h11=>
(newA h11 (.cells #[(.int .i64 p1)] 3) fun b12 h13=>
(apA 1 8 #[(.int .i64 (0:Int))] 3 s10 (Sl.mk (some (Addr.mk b12 0 none)) 1 1) h13 fun s14 h15=>
(onSome p0 fun a16=>
(aC (Addr.add a16 2) (.slice s14.a s14.len s14.cap) h15 fun h17=>
(Q (0:Int) h17)))))) h7))))) h3)))))∧
(bsel (decide (p1<(0:Int)))
(R1 (decide (p1<(0:Int))) h)
(R1 (decide (p1≥(16:Int))) h)))
def qcf_A:qcf_T:=qcf_G qcd_A qce_A
def qcf_W (f:qcf_T):ArS [.c .p,.c (.i .i64)] EnR:=fun p0 p1 K _Kp=>f p0 p1 (fun r0=>K (.int .i64 r0))
abbrev qcg_T:=Option Addr→Int→Int→Int→(Int→Int→AH→Prop)→AP
def qcg_G (f_qby:qby_T) (f_qca:qca_T) (f_qcb:qcb_T) (f_qcf:qcf_T) (p0:Option Addr) (p1:Int) (p2:Int) (p3:Int) (Q:Int→Int→AH→Prop) (h:AH):Prop:=
(∃ I1:Int→Nat→AH→Prop,(∃ m2,I1 (0:Int) m2 h)∧∀ x5:Int,∀ m2 h4,I1 x5 m2 h4→
(onSome p0 fun a6=>
(aM (Addr.add a6 3) h4 fun mp7=>
(aLk h4 mp7 .i64 x5 fun o8=>
(∃ pt9:Option Addr,((o8.getD (.pointer none)):Value)=(.pointer pt9)∧
(bsel (!pt9.isNone)
(∃ m3,m3<m2∧I1 (IntKind.wrap .i64 (x5+(1:Int))) m3 h4)
(bsel (decide (x5≥(16:Int)))
(Q (0:Int) (4:Int) h4)
(onSome p0 fun a10=>
(aP a10 h4 fun pt11=>
(onSome pt11 fun a12=>
(aP a12 h4 fun pt13=>
(onSome pt13 fun a14=>
(aP (Addr.add a14 2) h4 fun pt15=>
(f_qby pt15 p2 p3 (fun n16 n17 h18=>
(bsel (n17 != (0:Int))
(Q (0:Int) n17 h18)
(onSome p0 fun a19=>
(aP a19 h18 fun pt20=>
(onSome pt20 fun a21=>
(aP a21 h18 fun pt22=>
(onSome p0 fun a23=>
(aI .i64 (Addr.add a23 4) h18 fun n24=>
(f_qca pt22 n24 n16 (fun n25 h26=>
(bsel (n25 != (0:Int))
(f_qcb pt15 n16 (fun _ h28=>
(Q (0:Int) n25 h28)) h26)
(onSome p0 fun a29=>
(onSome p0 fun a30=>
(aM (Addr.add a29 3) h26 fun mp31=>
(aI .i64 (Addr.add a30 4) h26 fun n32=>
(newA h26 (.cells #[(.int .i64 n16),(.int .i64 n32),(.int .i64 p1),(.int .u64 (0:Int)),(.int .u64 (0:Int)),(.int .u64 (0:Int)),(.int .u64 (0:Int)),(.int .i64 (0:Int)),(.int .u64 (0:Int)),(.bool false),(.int .u64 (0:Int)),(.int .i64 (0:Int)),(.int .u64 (0:Int)),(.int .u64 (0:Int)),(.int .u64 (0:Int)),(.int .u64 (0:Int))] 110) fun b33 h34=>
((aM (Addr.add a29 3) h34 fun mp35=>
(((.map mp35):Value)=(.map mp31)))∧
(aMSt h34 mp31 .i64 x5 (.pointer (some (Addr.mk b33 0 none))) fun h36=>
(onSome p0 fun a37=>
(aI .i64 (Addr.add a37 4) h36 fun n38=>
(onSome p0 fun a39=>
(aC (Addr.add a39 4) (.int .i64 (IntKind.wrap .i64 (n38+(1:Int)))) h36 fun h40=>
(onSome p0 fun a41=>
(aP (Addr.add a41 1) h40 fun pt42=>
(f_qcf pt42 x5 (fun _ h44=>
(Q x5 (0:Int) h44)) h40)))))))))))))))) h18))))))))) h4))))))))))))))
def qcg_A:qcg_T:=qcg_G qby_A qca_A qcb_A qcf_A
def qcg_W (f:qcg_T):ArS [.c .p,.c (.i .i64),.c (.i .i64),.c (.i .i64)] EnR:=fun p0 p1 p2 p3 K _Kp=>f p0 p1 p2 p3 (fun r0 r1=>K (.tuple #[(.int .i64 r0),(.int .i64 r1)]))
abbrev qch_T:=Int→Int→Int→Int→Sl→Int→Sl→(Option Addr→Int→AH→Prop)→AP
def qch_G (f_qbs:qbs_T) (f_qbt:qbt_T) (f_qbu:qbu_T) (f_qaw:qaw_T) (f_qcg:qcg_T) (p0:Int) (p1:Int) (p2:Int) (p3:Int) (p4:Sl) (p5:Int) (p6:Sl) (Q:Option Addr→Int→AH→Prop) (h:AH):Prop:=
(f_qbs p0 p1 p2 p3 p4 (fun pt1 n2 h3=>
(bsel (n2 != (0:Int))
(Q none n2 h3)
(f_qbt p5 (fun pt4 n5 h6=>
(bsel (n5 != (0:Int))
(Q none n5 h6)
(f_qbu pt1 p6 (fun pt7 h8=>
(newA h8 (.map #[] 0) fun b9 h10=>
(newA h10 (.cells #[(.pointer pt7),(.pointer pt4),(.map none),(.map (some b9)),(.int .i64 (0:Int))] 74) fun b11 h12=>
(onSome pt1 fun a13=>
(aP (Addr.add a13 2) h12 fun pt14=>
(f_qaw pt14 (0:Int) (fun n15 h16=>
(f_qcg (some (Addr.mk b11 0 none)) (0:Int) (0:Int) n15 (fun _ n18 h19=>
(bsel (n18 != (0:Int))
(Q none n18 h19)
(Q (some (Addr.mk b11 0 none)) (0:Int) h19))) h16)) h12)))))) h6))) h3))) h)
def qch_A:qch_T:=qch_G qbs_A qbt_A qbu_A qaw_A qcg_A
def qch_W (f:qch_T):ArS [.agg [(.i .i64),(.i .i64),(.i .i64),(.i .i64),.s,(.i .i64),.s]] EnR:=fun p0 p1 p2 p3 p4 p5 p6 K _Kp=>f p0 p1 p2 p3 p4 p5 p6 (fun r0 r1=>K (.tuple #[(.pointer r0),(.int .i64 r1)]))
abbrev qci_T:=Option Addr→(Int→Bool→AH→Prop)→AP
def qci_A (p0:Option Addr) (Q:Int→Bool→AH→Prop) (h:AH):Prop:=
(onSome p0 fun a1=>
(aS (Addr.add a1 2) h fun s2=>
(bsel ((Int.ofNat s2.len)==(0:Int))
(Q (0:Int) false h)
(onSome p0 fun a3=>
(aS (Addr.add a3 2) h fun s4=>
(onSome s4.a fun a5=>
(inB (0:Int) s4.len
(aI .i64 a5 h fun n6=>
(Q n6 true h)))))))))
def qci_W (f:qci_T):ArS [.c .p] EnR:=fun p0 K _Kp=>f p0 (fun r0 r1=>K (.tuple #[(.int .i64 r0),(.bool r1)]))
abbrev qcj_T:=Option Addr→Int→(Int→AH→Prop)→(Value→AP)→AP
def qcj_A (p0:Option Addr) (p1:Int) (Q:Int→AH→Prop) (Kp:Value→AP) (h:AH):Prop:=
(onSome p0 fun a1=>
(aS a1 h fun s2=>
(onSome s2.a fun a3=>
(inB (0:Int) s2.len
(aI .u64 a3 h fun n4=>
(∃ R5:AH→Prop,(∀ h10,R5 h10→
(Q n4 h10))∧
(onSome p0 fun a6=>
(aS a6 h fun s7=>
(inB (1:Int) (s7.len+1)
(onSome p0 fun a8=>
(aC a8 (.slice (if s7.cap=1 then s7.a else Option.map (fun x=>Addr.add x (1*1)) s7.a) (s7.len-1) (s7.cap-1)) h fun h9=>
(bsel (decide (n4 > p1))
(Kp (.iface 158 (.agg #[])) h9)
(R5 h9)))))))))))))
def qcj_W (f:qcj_T):ArS [.c .p,.c (.i .u64)] EnR:=fun p0 p1 K Kp=>f p0 p1 (fun r0=>K (.int .u64 r0)) Kp
abbrev qck_T:=Option Addr→Int→(Int→AH→Prop)→(Value→AP)→AP
def qck_G (f_qcj:qcj_T) (p0:Option Addr) (p1:Int) (Q:Int→AH→Prop) (Kp:Value→AP) (h:AH):Prop:=
(f_qcj p0 (IntKind.wrap .u64 (IntKind.wrap .i64 (p1-(1:Int)))) (fun n1 h2=>
(Q (IntKind.wrap .i64 n1) h2)) (fun v3 h4=>(Kp v3 h4)) h)
def qck_A:qck_T:=qck_G qcj_A
def qck_W (f:qck_T):ArS [.c .p,.c (.i .i64)] EnR:=fun p0 p1 K Kp=>f p0 p1 (fun r0=>K (.int .i64 r0)) Kp
abbrev qcl_T:=Option Addr→(Int→Int→AH→Prop)→(Value→AP)→AP
def qcl_G (f_qck:qck_T) (p0:Option Addr) (Q:Int→Int→AH→Prop) (Kp:Value→AP) (h:AH):Prop:=
(f_qck p0 (34359738368:Int) (fun n1 h2=>
(f_qck p0 (65537:Int) (fun n5 h6=>
(∃ R9:AH→Prop,(∀ h10,R9 h10→
(Q n1 ((IntKind.wrap .i64 ((IntKind.wrap .i64 ((IntKind.wrap .i64 (n1+(1:Int)))+n5))-(1:Int))):Int) h10))∧
(bsel (((IntKind.wrap .i64 ((IntKind.wrap .i64 ((IntKind.wrap .i64 (n1+(1:Int)))+n5))-(1:Int))):Int)==n1)
(Kp (.iface 158 (.agg #[])) h6)
(bsel (decide (((IntKind.wrap .i64 ((IntKind.wrap .i64 ((IntKind.wrap .i64 (n1+(1:Int)))+n5))-(1:Int))):Int) > (34359738368:Int)))
(Kp (.iface 158 (.agg #[])) h6)
(R9 h6))))) (fun v7 h8=>(Kp v7 h8)) h2)) (fun v3 h4=>(Kp v3 h4)) h)
def qcl_A:qcl_T:=qcl_G qck_A
def qcl_W (f:qcl_T):ArS [.c .p] EnR:=fun p0 K Kp=>f p0 (fun r0 r1=>K (.agg #[(.int .i64 r0),(.int .i64 r1)])) Kp
abbrev qcm_T:=Option Addr→(Bool→Bool→Bool→AH→Prop)→(Value→AP)→AP
def qcm_G (f_qcj:qcj_T) (p0:Option Addr) (Q:Bool→Bool→Bool→AH→Prop) (Kp:Value→AP) (h:AH):Prop:=
(f_qcj p0 (3:Int) (fun n1 h2=>
(Q (((bits .and .u64 n1 (1:Int))==(1:Int)):Bool) (true:Bool) (((bits .and .u64 n1 (2:Int))==(2:Int)):Bool) h2)) (fun v3 h4=>(Kp v3 h4)) h)
def qcm_A:qcm_T:=qcm_G qcj_A
def qcm_W (f:qcm_T):ArS [.c .p] EnR:=fun p0 K Kp=>f p0 (fun r0 r1 r2=>K (.agg #[(.bool r0),(.bool r1),(.bool r2)])) Kp
abbrev qcn_T:=Option Addr→Option Addr→(AH→Prop)→(Value→AP)→AP
def qcn_G (f_qcj:qcj_T) (f_qck:qck_T) (p0:Option Addr) (p1:Option Addr) (Q:AH→Prop) (Kp:Value→AP) (h:AH):Prop:=
(f_qcj p0 (140737488355327:Int) (fun n1 h2=>
(onSome p1 fun a5=>
(aC (Addr.add a5 6) (.int .u64 n1) h2 fun h6=>
(f_qck p0 (9:Int) (fun n7 h8=>
(onSome p1 fun a11=>
(aC (Addr.add a11 7) (.int .i64 n7) h8 fun h12=>
(onSome p1 fun a13=>
(aI .i64 (Addr.add a13 7) h12 fun n14=>
(onSome p1 fun a15=>
(aI .i64 (Addr.add a15 7) h12 fun n16=>
(bsel ((bits .and .i64 n14 (IntKind.wrap .i64 (n16-(1:Int)))) != (0:Int))
(Kp (.iface 158 (.agg #[])) h12)
(onSome p1 fun a17=>
(aI .i64 (Addr.add a17 7) h12 fun n18=>
(bsel (n18==(0:Int))
(Kp (.iface 158 (.agg #[])) h12)
(onSome p1 fun a19=>
(aI .u64 (Addr.add a19 6) h12 fun n20=>
(onSome p1 fun a21=>
(aI .i64 (Addr.add a21 7) h12 fun n22=>
(bsel ((IntKind.wrap .u64 n22)==0) False
(bsel ((Int.tmod n20 (IntKind.wrap .u64 n22)) != (0:Int))
(Kp (.iface 158 (.agg #[])) h12)
(Q h12)))))))))))))))))) (fun v9 h10=>(Kp v9 h10)) h6)))) (fun v3 h4=>(Kp v3 h4)) h)
def qcn_A:qcn_T:=qcn_G qcj_A qck_A
def qcn_W (f:qcn_T):ArS [.c .p,.c .p] EnR:=fun p0 p1 K Kp=>f p0 p1 (K (.tuple #[])) Kp
abbrev qco_T:=Option Addr→(Int→Int→AH→Prop)→(Value→AP)→AP
def qco_G (f_qck:qck_T) (p0:Option Addr) (Q:Int→Int→AH→Prop) (Kp:Value→AP) (h:AH):Prop:=
(f_qck p0 (34359738368:Int) (fun n1 h2=>
(Q n1 ((IntKind.wrap .i64 (n1+(1:Int))):Int) h2)) (fun v3 h4=>(Kp v3 h4)) h)
def qco_A:qco_T:=qco_G qck_A
def qco_W (f:qco_T):ArS [.c .p] EnR:=fun p0 K Kp=>f p0 (fun r0 r1=>K (.agg #[(.int .i64 r0),(.int .i64 r1)])) Kp
abbrev qcp_T:=Option Addr→(Int→Int→Int→Bool→Bool→Bool→Int→Int→Int→Int→Int→Int→Int→AH→Prop)→(Value→AP)→AP
def qcp_G (f_qck:qck_T) (f_qcl:qcl_T) (f_qcm:qcm_T) (f_qcn:qcn_T) (f_qcj:qcj_T) (f_qco:qco_T) (p0:Option Addr) (Q:Int→Int→Int→Bool→Bool→Bool→Int→Int→Int→Int→Int→Int→Int→AH→Prop) (Kp:Value→AP) (h:AH):Prop:=
(f_qck p0 (17:Int) (fun n1 h2=>
(newA h2 (.cells #[(.int .i64 (0:Int)),(.int .i64 (0:Int)),(.int .i64 (0:Int)),(.bool false),(.bool false),(.bool false),(.int .u64 (0:Int)),(.int .i64 (0:Int)),(.int .u64 (0:Int)),(.int .i64 (0:Int)),(.int .i64 (0:Int)),(.int .i64 (0:Int)),(.int .i64 (0:Int))] 96) fun b5 h6=>
(aC (Addr.mk b5 0 none) (.int .i64 n1) h6 fun h7=>
(aC (Addr.add (Addr.mk b5 0 none) 1) (.int .i64 (0:Int)) h7 fun h8=>
(aC (Addr.add (Addr.mk b5 0 none) 2) (.int .i64 (0:Int)) h8 fun h9=>
(aC (Addr.add (Addr.mk b5 0 none) 3) (.bool false) h9 fun h10=>
(aC (Addr.add (Addr.mk b5 0 none) 4) (.bool false) h10 fun h11=>
(aC (Addr.add (Addr.mk b5 0 none) 5) (.bool false) h11 fun h12=>
(aC (Addr.add (Addr.mk b5 0 none) 6) (.int .u64 (0:Int)) h12 fun h13=>
(aC (Addr.add (Addr.mk b5 0 none) 7) (.int .i64 (0:Int)) h13 fun h14=>
(aC (Addr.add (Addr.mk b5 0 none) 8) (.int .u64 (0:Int)) h14 fun h15=>
(aC (Addr.add (Addr.mk b5 0 none) 9) (.int .i64 (0:Int)) h15 fun h16=>
(aC (Addr.add (Addr.mk b5 0 none) 10) (.int .i64 (0:Int)) h16 fun h17=>
(aC (Addr.add (Addr.mk b5 0 none) 11) (.int .i64 (0:Int)) h17 fun h18=>
(aC (Addr.add (Addr.mk b5 0 none) 12) (.int .i64 (0:Int)) h18 fun h19=>
(∃ R20:AH→Prop,(∀ h142,R20 h142→
(onSome p0 fun a143=>
(aS a143 h142 fun s144=>
(∃ I145:Int→Nat→AH→Prop,(∃ m146,I145 (0:Int) m146 h142)∧∀ x149:Int,∀ m146 h148,I145 x149 m146 h148→
(bsel (decide (x149<(Int.ofNat s144.len)))
(f_qcj p0 (0:Int) (fun _ h151=>
(∃ m147,m147<m146∧I145 (IntKind.wrap .i64 (x149+(1:Int))) m147 h151)) (fun v152 h153=>(Kp v152 h153)) h148)
(aI .i64 (Addr.mk b5 0 none) h148 fun n154=>
(aI .i64 (Addr.add (Addr.mk b5 0 none) 1) h148 fun n155=>
(aI .i64 (Addr.add (Addr.mk b5 0 none) 2) h148 fun n156=>
(aB (Addr.add (Addr.mk b5 0 none) 3) h148 fun b157=>
(aB (Addr.add (Addr.mk b5 0 none) 4) h148 fun b158=>
(aB (Addr.add (Addr.mk b5 0 none) 5) h148 fun b159=>
(aI .u64 (Addr.add (Addr.mk b5 0 none) 6) h148 fun n160=>
(aI .i64 (Addr.add (Addr.mk b5 0 none) 7) h148 fun n161=>
(aI .u64 (Addr.add (Addr.mk b5 0 none) 8) h148 fun n162=>
(aI .i64 (Addr.add (Addr.mk b5 0 none) 9) h148 fun n163=>
(aI .i64 (Addr.add (Addr.mk b5 0 none) 10) h148 fun n164=>
(aI .i64 (Addr.add (Addr.mk b5 0 none) 11) h148 fun n165=>
(aI .i64 (Addr.add (Addr.mk b5 0 none) 12) h148 fun n166=>
(Q n154 n155 n156 b157 b158 b159 n160 n161 n162 n163 n164 n165 n166 h148)))))))))))))))))))∧
(aI .i64 (Addr.mk b5 0 none) h19 fun n21=>
(∃ R22:Bool→AH→Prop,(∀ b23:Bool,∀ h24,R22 b23 h24→
(bsel b23
(f_qcl p0 (fun n25 n26 h27=>
(f_qcm p0 (fun b30 b31 b32 h33=>
(aC (Addr.add (Addr.mk b5 0 none) 1) (.int .i64 n25) h33 fun h36=>
(aC (Addr.add (Addr.add (Addr.mk b5 0 none) 1) 1) (.int .i64 n26) h36 fun h37=>
(aC (Addr.add (Addr.mk b5 0 none) 3) (.bool b30) h37 fun h38=>
(aC (Addr.add (Addr.add (Addr.mk b5 0 none) 3) 1) (.bool b31) h38 fun h39=>
(aC (Addr.add (Addr.add (Addr.mk b5 0 none) 3) 2) (.bool b32) h39 fun h40=>
(R20 h40))))))) (fun v34 h35=>(Kp v34 h35)) h27)) (fun v28 h29=>(Kp v28 h29)) h24)
(bsel (n21==(2:Int))
(f_qcl p0 (fun n41 n42 h43=>
(aC (Addr.add (Addr.mk b5 0 none) 1) (.int .i64 n41) h43 fun h46=>
(aC (Addr.add (Addr.add (Addr.mk b5 0 none) 1) 1) (.int .i64 n42) h46 fun h47=>
(R20 h47)))) (fun v44 h45=>(Kp v44 h45)) h24)
(bsel (n21==(4:Int))
(f_qcn p0 (some (Addr.mk b5 0 none)) (fun h48=>
(R20 h48)) (fun v49 h50=>(Kp v49 h50)) h24)
(bsel (n21==(5:Int))
(f_qcn p0 (some (Addr.mk b5 0 none)) (fun h51=>
(f_qcj p0 (18446744073709551615:Int) (fun n54 h55=>
(aC (Addr.add (Addr.mk b5 0 none) 8) (.int .u64 n54) h55 fun h58=>
(aI .i64 (Addr.add (Addr.mk b5 0 none) 7) h58 fun n59=>
(bsel (decide (n59<(8:Int)))
(aI .u64 (Addr.add (Addr.mk b5 0 none) 8) h58 fun n60=>
(aI .i64 (Addr.add (Addr.mk b5 0 none) 7) h58 fun n61=>
(bsel (decide ((IntKind.wrap .i64 ((8:Int)*n61))<0)) False
(bsel ((Int.fdiv n60 (2 ^ (min (Int.toNat (IntKind.wrap .i64 ((8:Int)*n61))) 64))) != (0:Int))
(Kp (.iface 158 (.agg #[])) h58)
(R20 h58)))))
(R20 h58))))) (fun v56 h57=>(Kp v56 h57)) h51)) (fun v52 h53=>(Kp v52 h53)) h24)
(bsel (n21==(6:Int))
(f_qco p0 (fun n62 n63 h64=>
(f_qck p0 (16:Int) (fun n67 h68=>
(aC (Addr.add (Addr.mk b5 0 none) 1) (.int .i64 n62) h68 fun h71=>
(aC (Addr.add (Addr.add (Addr.mk b5 0 none) 1) 1) (.int .i64 n63) h71 fun h72=>
(aC (Addr.add (Addr.mk b5 0 none) 9) (.int .i64 n67) h72 fun h73=>
(f_qcj p0 (1:Int) (fun n74 h75=>
(aC (Addr.add (Addr.mk b5 0 none) 3) (.bool (n74==(1:Int))) h75 fun h78=>
(R20 h78))) (fun v76 h77=>(Kp v76 h77)) h73))))) (fun v69 h70=>(Kp v69 h70)) h64)) (fun v65 h66=>(Kp v65 h66)) h24)
(bsel (n21==(7:Int))
(f_qck p0 (256:Int) (fun n79 h80=>
(f_qco p0 (fun n83 n84 h85=>
(aC (Addr.add (Addr.mk b5 0 none) 9) (.int .i64 n79) h85 fun h88=>
(aC (Addr.add (Addr.mk b5 0 none) 1) (.int .i64 n83) h88 fun h89=>
(aC (Addr.add (Addr.add (Addr.mk b5 0 none) 1) 1) (.int .i64 n84) h89 fun h90=>
(R20 h90))))) (fun v86 h87=>(Kp v86 h87)) h80)) (fun v81 h82=>(Kp v81 h82)) h24)
(∃ R91:Bool→AH→Prop,(∀ b92:Bool,∀ h93,R91 b92 h93→
(bsel b92
(f_qck p0 (256:Int) (fun n94 h95=>
(aC (Addr.add (Addr.mk b5 0 none) 9) (.int .i64 n94) h95 fun h98=>
(R20 h98))) (fun v96 h97=>(Kp v96 h97)) h93)
(bsel (n21==(10:Int))
(f_qcj p0 (140737488355327:Int) (fun n99 h100=>
(aC (Addr.add (Addr.mk b5 0 none) 6) (.int .u64 n99) h100 fun h103=>
(R20 h103))) (fun v101 h102=>(Kp v101 h102)) h93)
(bsel (n21==(12:Int))
(f_qck p0 (1048577:Int) (fun n104 h105=>
(aC (Addr.add (Addr.mk b5 0 none) 9) (.int .i64 n104) h105 fun h108=>
(R20 h108))) (fun v106 h107=>(Kp v106 h107)) h93)
(bsel (n21==(15:Int))
(f_qck p0 (8:Int) (fun n109 h110=>
(f_qck p0 (4:Int) (fun n113 h114=>
(f_qck p0 (4:Int) (fun n117 h118=>
(f_qck p0 (4:Int) (fun n121 h122=>
(aC (Addr.add (Addr.mk b5 0 none) 9) (.int .i64 (IntKind.wrap .i64 ((1:Int)+n109))) h122 fun h125=>
(aC (Addr.add (Addr.mk b5 0 none) 10) (.int .i64 n113) h125 fun h126=>
(aC (Addr.add (Addr.mk b5 0 none) 11) (.int .i64 n117) h126 fun h127=>
(aC (Addr.add (Addr.mk b5 0 none) 12) (.int .i64 n121) h127 fun h128=>
(R20 h128)))))) (fun v123 h124=>(Kp v123 h124)) h118)) (fun v119 h120=>(Kp v119 h120)) h114)) (fun v115 h116=>(Kp v115 h116)) h110)) (fun v111 h112=>(Kp v111 h112)) h93)
(bsel (n21==(16:Int))
(f_qck p0 (4:Int) (fun n129 h130=>
(f_qcj p0 (18446744073709551615:Int) (fun n133 h134=>
(aC (Addr.add (Addr.mk b5 0 none) 9) (.int .i64 n129) h134 fun h137=>
(aC (Addr.add (Addr.mk b5 0 none) 8) (.int .u64 n133) h137 fun h138=>
(R20 h138)))) (fun v135 h136=>(Kp v135 h136)) h130)) (fun v131 h132=>(Kp v131 h132)) h93)
(∃ R139:Bool→AH→Prop,(∀ b140:Bool,∀ h141,R139 b140 h141→
(bsel b140
(R20 h141)
(Kp (.iface 158 (.agg #[])) h141)))∧
(bsel (n21==(11:Int))
(R139 (n21==(11:Int)) h93)
(bsel (n21==(13:Int))
(R139 (n21==(13:Int)) h93)
(R139 (n21==(14:Int)) h93))))))))))∧
(bsel (n21==(8:Int))
(R91 (n21==(8:Int)) h24)
(R91 (n21==(9:Int)) h24))))))))))∧
(bsel (n21==(1:Int))
(R22 (n21==(1:Int)) h19)
(R22 (n21==(3:Int)) h19)))))))))))))))))))) (fun v3 h4=>(Kp v3 h4)) h)
def qcp_A:qcp_T:=qcp_G qck_A qcl_A qcm_A qcn_A qcj_A qco_A
def qcp_W (f:qcp_T):ArS [.c .p] EnR:=fun p0 K Kp=>f p0 (fun r0 r1 r2 r3 r4 r5 r6 r7 r8 r9 r10 r11 r12=>K (.agg #[(.int .i64 r0),(.int .i64 r1),(.int .i64 r2),(.bool r3),(.bool r4),(.bool r5),(.int .u64 r6),(.int .i64 r7),(.int .u64 r8),(.int .i64 r9),(.int .i64 r10),(.int .i64 r11),(.int .i64 r12)])) Kp
abbrev qcq_Tn:=Option Addr→Option Addr→AP→AP
def qcq_nA (_p0:Option Addr) (_p1:Option Addr) (K:AP) (h:AH):Prop:=
(K h)
abbrev qcq_Tp:=Option Addr→Option Addr→AP→AP
def qcq_pA (p0:Option Addr) (p1:Option Addr) (K:AP) (h:AH):Prop:=
(onSome p0 fun a1=>
(aC a1 (.int .i64 (0:Int)) h fun h2=>
(aC (Addr.add a1 1) (.int .i64 (0:Int)) h2 fun h3=>
(aC (Addr.add a1 2) (.int .i64 (0:Int)) h3 fun h4=>
(aC (Addr.add a1 3) (.bool false) h4 fun h5=>
(aC (Addr.add a1 4) (.bool false) h5 fun h6=>
(aC (Addr.add a1 5) (.bool false) h6 fun h7=>
(aC (Addr.add a1 6) (.int .u64 (0:Int)) h7 fun h8=>
(aC (Addr.add a1 7) (.int .i64 (0:Int)) h8 fun h9=>
(aC (Addr.add a1 8) (.int .u64 (0:Int)) h9 fun h10=>
(aC (Addr.add a1 9) (.int .i64 (0:Int)) h10 fun h11=>
(aC (Addr.add a1 10) (.int .i64 (0:Int)) h11 fun h12=>
(aC (Addr.add a1 11) (.int .i64 (0:Int)) h12 fun h13=>
(aC (Addr.add a1 12) (.int .i64 (0:Int)) h13 fun h14=>
(onSome p1 fun a15=>
(aC a15 (.int .i64 (13:Int)) h14 fun h16=>
(K h16)))))))))))))))))
abbrev qcq_Tv:=Option Addr→Option Addr→Value→AP→AP
def qcq_vA (f_p:qcq_Tp):qcq_Tv:=fun p0 p1 v K h=>dpS [.c .p,.c .p] 158 [] f_p [(.pointer p0),(.pointer p1)] v K h
abbrev qcr_T:=Int→Int→Int→Int→Int→Int→(Int→Int→Int→Bool→Bool→Bool→Int→Int→Int→Int→Int→Int→Int→Int→AH→Prop)→AP
def qcr_G (f_qcp:qcp_T) (f_qcq_n:qcq_Tn) (f_qcq_v:qcq_Tv) (p0:Int) (p1:Int) (p2:Int) (p3:Int) (p4:Int) (p5:Int) (Q:Int→Int→Int→Bool→Bool→Bool→Int→Int→Int→Int→Int→Int→Int→Int→AH→Prop) (h:AH):Prop:=
(newA h (.cells #[(.int .u64 p0),(.int .u64 p1),(.int .u64 p2),(.int .u64 p3),(.int .u64 p4),(.int .u64 p5)] 44) fun b1 h2=>
(newA h2 (.cells #[(.int .i64 (0:Int)),(.int .i64 (0:Int)),(.int .i64 (0:Int)),(.bool false),(.bool false),(.bool false),(.int .u64 (0:Int)),(.int .i64 (0:Int)),(.int .u64 (0:Int)),(.int .i64 (0:Int)),(.int .i64 (0:Int)),(.int .i64 (0:Int)),(.int .i64 (0:Int))] 96) fun b3 h4=>
(newA h4 (.cells #[(.int .i64 (0:Int))] 26) fun b5 h6=>
(newA h6 (.cells #[(.slice (some (Addr.mk b1 0 none)) 6 6)] 163) fun b7 h8=>
(f_qcp (some (Addr.mk b7 0 none)) (fun n9 n10 n11 b12 b13 b14 n15 n16 n17 n18 n19 n20 n21 h22=>
(aC (Addr.mk b3 0 none) (.int .i64 n9) h22 fun h40=>
(aC (Addr.add (Addr.mk b3 0 none) 1) (.int .i64 n10) h40 fun h41=>
(aC (Addr.add (Addr.mk b3 0 none) 2) (.int .i64 n11) h41 fun h42=>
(aC (Addr.add (Addr.mk b3 0 none) 3) (.bool b12) h42 fun h43=>
(aC (Addr.add (Addr.mk b3 0 none) 4) (.bool b13) h43 fun h44=>
(aC (Addr.add (Addr.mk b3 0 none) 5) (.bool b14) h44 fun h45=>
(aC (Addr.add (Addr.mk b3 0 none) 6) (.int .u64 n15) h45 fun h46=>
(aC (Addr.add (Addr.mk b3 0 none) 7) (.int .i64 n16) h46 fun h47=>
(aC (Addr.add (Addr.mk b3 0 none) 8) (.int .u64 n17) h47 fun h48=>
(aC (Addr.add (Addr.mk b3 0 none) 9) (.int .i64 n18) h48 fun h49=>
(aC (Addr.add (Addr.mk b3 0 none) 10) (.int .i64 n19) h49 fun h50=>
(aC (Addr.add (Addr.mk b3 0 none) 11) (.int .i64 n20) h50 fun h51=>
(aC (Addr.add (Addr.mk b3 0 none) 12) (.int .i64 n21) h51 fun h52=>
(aC (Addr.mk b5 0 none) (.int .i64 (0:Int)) h52 fun h53=>
(f_qcq_n (some (Addr.mk b3 0 none)) (some (Addr.mk b5 0 none)) (fun h54=>
(aI .i64 (Addr.mk b3 0 none) h54 fun n55=>
(aI .i64 (Addr.add (Addr.mk b3 0 none) 1) h54 fun n56=>
(aI .i64 (Addr.add (Addr.mk b3 0 none) 2) h54 fun n57=>
(aB (Addr.add (Addr.mk b3 0 none) 3) h54 fun b58=>
(aB (Addr.add (Addr.mk b3 0 none) 4) h54 fun b59=>
(aB (Addr.add (Addr.mk b3 0 none) 5) h54 fun b60=>
(aI .u64 (Addr.add (Addr.mk b3 0 none) 6) h54 fun n61=>
(aI .i64 (Addr.add (Addr.mk b3 0 none) 7) h54 fun n62=>
(aI .u64 (Addr.add (Addr.mk b3 0 none) 8) h54 fun n63=>
(aI .i64 (Addr.add (Addr.mk b3 0 none) 9) h54 fun n64=>
(aI .i64 (Addr.add (Addr.mk b3 0 none) 10) h54 fun n65=>
(aI .i64 (Addr.add (Addr.mk b3 0 none) 11) h54 fun n66=>
(aI .i64 (Addr.add (Addr.mk b3 0 none) 12) h54 fun n67=>
(aI .i64 (Addr.mk b5 0 none) h54 fun n68=>
(Q n55 n56 n57 b58 b59 b60 n61 n62 n63 n64 n65 n66 n67 n68 h54)))))))))))))))) h53)))))))))))))))) (fun v23 h24=>(f_qcq_v (some (Addr.mk b3 0 none)) (some (Addr.mk b5 0 none)) v23 (fun h25=>
(aI .i64 (Addr.mk b3 0 none) h25 fun n26=>
(aI .i64 (Addr.add (Addr.mk b3 0 none) 1) h25 fun n27=>
(aI .i64 (Addr.add (Addr.mk b3 0 none) 2) h25 fun n28=>
(aB (Addr.add (Addr.mk b3 0 none) 3) h25 fun b29=>
(aB (Addr.add (Addr.mk b3 0 none) 4) h25 fun b30=>
(aB (Addr.add (Addr.mk b3 0 none) 5) h25 fun b31=>
(aI .u64 (Addr.add (Addr.mk b3 0 none) 6) h25 fun n32=>
(aI .i64 (Addr.add (Addr.mk b3 0 none) 7) h25 fun n33=>
(aI .u64 (Addr.add (Addr.mk b3 0 none) 8) h25 fun n34=>
(aI .i64 (Addr.add (Addr.mk b3 0 none) 9) h25 fun n35=>
(aI .i64 (Addr.add (Addr.mk b3 0 none) 10) h25 fun n36=>
(aI .i64 (Addr.add (Addr.mk b3 0 none) 11) h25 fun n37=>
(aI .i64 (Addr.add (Addr.mk b3 0 none) 12) h25 fun n38=>
(aI .i64 (Addr.mk b5 0 none) h25 fun n39=>
(Q n26 n27 n28 b29 b30 b31 n32 n33 n34 n35 n36 n37 n38 n39 h25)))))))))))))))) h24)) h8)))))
def qcr_A:qcr_T:=qcr_G qcp_A qcq_nA (qcq_vA qcq_pA)
def qcr_W (f:qcr_T):ArS [.agg [(.i .u64),(.i .u64),(.i .u64),(.i .u64),(.i .u64),(.i .u64)]] EnR:=fun p0 p1 p2 p3 p4 p5 K _Kp=>f p0 p1 p2 p3 p4 p5 (fun r0 r1 r2 r3 r4 r5 r6 r7 r8 r9 r10 r11 r12 r13=>K (.tuple #[(.agg #[(.int .i64 r0),(.int .i64 r1),(.int .i64 r2),(.bool r3),(.bool r4),(.bool r5),(.int .u64 r6),(.int .i64 r7),(.int .u64 r8),(.int .i64 r9),(.int .i64 r10),(.int .i64 r11),(.int .i64 r12)]),(.int .i64 r13)]))
abbrev qcs_T:=Int→Int→Int→(AH→Prop)→(Value→AP)→AP
def qcs_A (p0:Int) (p1:Int) (p2:Int) (Q:AH→Prop) (Kp:Value→AP) (h:AH):Prop:=
(bsel (p0 != (0:Int))
(Kp (.iface 226 (.agg #[(.int .u64 p1),(.int .i64 p2),(.int .i64 p0)])) h)
(Q h))
def qcs_W (f:qcs_T):ArS [.c (.i .i64),.agg [(.i .u64),(.i .i64)]] EnR:=fun p0 p1 p2 K Kp=>f p0 p1 p2 (K (.tuple #[])) Kp
abbrev qct_T:=Option Addr→Int→Int→(Int→AH→Prop)→AP
def qct_A (p0:Option Addr) (p1:Int) (p2:Int) (Q:Int→AH→Prop) (h:AH):Prop:=
(bsel (decide (p1<(0:Int)))
(Q (1:Int) h)
(bsel (decide (p1≥(8:Int)))
(Q (1:Int) h)
(bsel (decide (p2<(0:Int)))
(Q (1:Int) h)
(bsel (decide (p2≥(2:Int)))
(Q (1:Int) h)
(onSome p0 fun a1=>
(inB p1 8
(inB p2 2
(aC (Addr.add (Addr.add a1 (Int.toNat p1*18)) (Int.toNat p2*9)) (.bool false) h fun h2=>
(aC (Addr.add (Addr.add (Addr.add a1 (Int.toNat p1*18)) (Int.toNat p2*9)) 1) (.int .i64 (0:Int)) h2 fun h3=>
(aC (Addr.add (Addr.add (Addr.add a1 (Int.toNat p1*18)) (Int.toNat p2*9)) 2) (.int .i64 (0:Int)) h3 fun h4=>
(aC (Addr.add (Addr.add (Addr.add a1 (Int.toNat p1*18)) (Int.toNat p2*9)) 3) (.int .i64 (0:Int)) h4 fun h5=>
(aC (Addr.add (Addr.add (Addr.add a1 (Int.toNat p1*18)) (Int.toNat p2*9)) 4) (.bool false) h5 fun h6=>
(aC (Addr.add (Addr.add (Addr.add a1 (Int.toNat p1*18)) (Int.toNat p2*9)) 5) (.bool false) h6 fun h7=>
(aC (Addr.add (Addr.add (Addr.add a1 (Int.toNat p1*18)) (Int.toNat p2*9)) 6) (.bool false) h7 fun h8=>
(aC (Addr.add (Addr.add (Addr.add a1 (Int.toNat p1*18)) (Int.toNat p2*9)) 7) (.bool false) h8 fun h9=>
(aC (Addr.add (Addr.add (Addr.add a1 (Int.toNat p1*18)) (Int.toNat p2*9)) 8) (.bool false) h9 fun h10=>
(Q (0:Int) h10)))))))))))))))))
def qct_W (f:qct_T):ArS [.c .p,.c (.i .i64),.c (.i .i64)] EnR:=fun p0 p1 p2 K _Kp=>f p0 p1 p2 (fun r0=>K (.int .i64 r0))
abbrev qcu_T:=Option Addr→(Int→AH→Prop)→AP
def qcu_G (f_qct:qct_T) (p0:Option Addr) (Q:Int→AH→Prop) (h:AH):Prop:=
(∃ R1:Int→AH→Prop,(∀ x16:Int,∀ h17,R1 x16 h17→
(∃ R18:AH→Prop,(∀ h25,R18 h25→
(Q (IntKind.wrap .i64 ((Int.tmod (Int.tmod (IntKind.wrap .i64 ((Int.tmod x16 (51:Int))+(51:Int))) (51:Int)) (3:Int))-(1:Int))) h25))∧
(bsel (decide ((IntKind.wrap .i64 ((IntKind.wrap .i64 (Int.tdiv (Int.tmod (IntKind.wrap .i64 ((Int.tmod x16 (51:Int))+(51:Int))) (51:Int)) (3:Int)))-(1:Int)))≥(0:Int)))
(onSome p0 fun a19=>
(aP a19 h17 fun pt20=>
(onSome pt20 fun a21=>
(aP (Addr.add a21 3) h17 fun pt22=>
(f_qct pt22 (Int.tmod (IntKind.wrap .i64 ((IntKind.wrap .i64 (Int.tdiv (Int.tmod (IntKind.wrap .i64 ((Int.tmod x16 (51:Int))+(51:Int))) (51:Int)) (3:Int)))-(1:Int))) (8:Int)) (IntKind.wrap .i64 (Int.tdiv (IntKind.wrap .i64 ((IntKind.wrap .i64 (Int.tdiv (Int.tmod (IntKind.wrap .i64 ((Int.tmod x16 (51:Int))+(51:Int))) (51:Int)) (3:Int)))-(1:Int))) (8:Int))) (fun _ h24=>
(R18 h24)) h17)))))
(R18 h17))))∧
(onSome p0 fun a2=>
(aI .i64 (Addr.add a2 2) h fun n3=>
(onSome p0 fun a4=>
(aS (Addr.add a4 1) h fun s5=>
(bsel (decide (n3<(Int.ofNat s5.len)))
(onSome p0 fun a6=>
(aS (Addr.add a6 1) h fun s7=>
(onSome p0 fun a8=>
(aI .i64 (Addr.add a8 2) h fun n9=>
(onSome s7.a fun a10=>
(inB n9 s7.len
(aI .i64 (Addr.add a10 (Int.toNat n9*1)) h fun n11=>
(onSome p0 fun a12=>
(aI .i64 (Addr.add a12 2) h fun n13=>
(onSome p0 fun a14=>
(aC (Addr.add a14 2) (.int .i64 (IntKind.wrap .i64 (n13+(1:Int)))) h fun h15=>
(R1 n11 h15))))))))))))
(R1 (0:Int) h)))))))
def qcu_A:qcu_T:=qcu_G qct_A
def qcu_W (f:qcu_T):ArS [.c .p] EnR:=fun p0 K _Kp=>f p0 (fun r0=>K (.int .i64 r0))
abbrev qcv_T:=Option Addr→Int→(Int→Bool→AH→Prop)→AP
def qcv_A (p0:Option Addr) (p1:Int) (Q:Int→Bool→AH→Prop) (h:AH):Prop:=
(onSome p0 fun a1=>
(aM (Addr.add a1 6) h fun mp2=>
(aLk h mp2 .i64 p1 fun o3=>
(∃ pt4:Option Addr,((o3.getD (.pointer none)):Value)=(.pointer pt4)∧
(bsel (!pt4.isNone)
(onSome pt4 fun a5=>
(aI .i64 (Addr.add a5 1) h fun n6=>
(Q n6 true h)))
(Q (0:Int) false h))))))
def qcv_W (f:qcv_T):ArS [.c .p,.c (.i .i64)] EnR:=fun p0 p1 K _Kp=>f p0 p1 (fun r0 r1=>K (.tuple #[(.int .i64 r0),(.bool r1)]))
abbrev qcw_T:=Option Addr→Int→(Int→Bool→AH→Prop)→AP
def qcw_G (f_qan:qan_T) (p0:Option Addr) (p1:Int) (Q:Int→Bool→AH→Prop) (h:AH):Prop:=
(onSome p0 fun a1=>
(aM (Addr.add a1 4) h fun mp2=>
(aLk h mp2 .i64 p1 fun o3=>
(∃ n4:Int,((o3.getD (.int .i64 (0:Int))):Value)=(.int .i64 n4)∧
(bsel o3.isSome
(Q n4 false h)
(onSome p0 fun a5=>
(aI .i64 (Addr.add a5 1) h fun n6=>
(onSome p0 fun a7=>
(aI .i64 a7 h fun n8=>
(∃ R9:AH→Prop,(∀ h15,R9 h15→
(onSome p0 fun a16=>
(aI .i64 (Addr.add a16 1) h15 fun n17=>
(onSome p0 fun a18=>
(aI .i64 (Addr.add a18 1) h15 fun n19=>
(onSome p0 fun a20=>
(aC (Addr.add a20 1) (.int .i64 (IntKind.wrap .i64 (n19+(1:Int)))) h15 fun h21=>
(onSome p0 fun a22=>
(onSome p0 fun a23=>
(aM (Addr.add a22 4) h21 fun mp24=>
(aM (Addr.add a23 3) h21 fun mp25=>
(aMEn h21 mp24 .i64 p1 (.int .i64 (0:Int)) fun v26 n27 h28=>
(∃ n29:Int,(v26:Value)=(.int .i64 n29)∧
(aMES h28 mp24 n27 (.int .i64 n17) fun h30=>
(aMEn h30 mp25 .i64 n17 (.int .i64 (0:Int)) fun v31 n32 h33=>
(∃ n34:Int,(v31:Value)=(.int .i64 n34)∧
(aMES h33 mp25 n32 (.int .i64 p1) fun h35=>
(Q n17 (decide (n6 > n8)) h35))))))))))))))))))∧
(bsel (decide (n6 > n8))
(f_qan p0 (fun h10=>
(onSome p0 fun a11=>
(aI .i64 (Addr.add a11 2) h10 fun n12=>
(onSome p0 fun a13=>
(aC (Addr.add a13 2) (.int .i64 (IntKind.wrap .i64 (n12+(1:Int)))) h10 fun h14=>
(R9 h14)))))) h)
(R9 h))))))))))))
def qcw_A:qcw_T:=qcw_G qan_A
def qcw_W (f:qcw_T):ArS [.c .p,.c (.i .i64)] EnR:=fun p0 p1 K _Kp=>f p0 p1 (fun r0 r1=>K (.tuple #[(.int .i64 r0),(.bool r1)]))
abbrev qcx_T:=Bool→Int→Int→Int→Bool→Bool→Bool→Bool→Bool→Option Addr→(Bool→AH→Prop)→AP
def qcx_A (_p0:Bool) (_p1:Int) (_p2:Int) (_p3:Int) (_p4:Bool) (_p5:Bool) (_p6:Bool) (p7:Bool) (_p8:Bool) (p9:Option Addr) (Q:Bool→AH→Prop) (h:AH):Prop:=
(onSome p9 fun a1=>
(aB a1 h fun b2=>
(bsel (!b2)
(Q true h)
(Q (!p7) h))))
def qcx_W (f:qcx_T):ArS [.agg [.b,(.i .i64),(.i .i64),(.i .i64),.b,.b,.b,.b,.b],.c .p] EnR:=fun p0 p1 p2 p3 p4 p5 p6 p7 p8 p9 K _Kp=>f p0 p1 p2 p3 p4 p5 p6 p7 p8 p9 (fun r0=>K (.bool r0))
abbrev qcy_T:=Option Addr→Option Addr→(AH→Prop)→AP
def qcy_G (f_qcx:qcx_T) (p0:Option Addr) (p1:Option Addr) (Q:AH→Prop) (h:AH):Prop:=
(∃ I1:Int→Nat→AH→Prop,(∃ m2,I1 (0:Int) m2 h)∧∀ x5:Int,∀ m2 h4,I1 x5 m2 h4→
(bsel (decide (x5<(8:Int)))
(∃ I6:Int→Nat→AH→Prop,(∃ m7,I6 (0:Int) m7 h4)∧∀ x10:Int,∀ m7 h9,I6 x10 m7 h9→
(bsel (decide (x10<(2:Int)))
(∃ R11:AH→Prop,(∀ h34,R11 h34→
(∃ m8,m8<m7∧I6 (IntKind.wrap .i64 (x10+(1:Int))) m8 h34))∧
(onSome p0 fun a12=>
(inB x5 8
(inB x10 2
(aB (Addr.add (Addr.add a12 (Int.toNat x5*18)) (Int.toNat x10*9)) h9 fun b13=>
(aI .i64 (Addr.add (Addr.add (Addr.add a12 (Int.toNat x5*18)) (Int.toNat x10*9)) 1) h9 fun n14=>
(aI .i64 (Addr.add (Addr.add (Addr.add a12 (Int.toNat x5*18)) (Int.toNat x10*9)) 2) h9 fun n15=>
(aI .i64 (Addr.add (Addr.add (Addr.add a12 (Int.toNat x5*18)) (Int.toNat x10*9)) 3) h9 fun n16=>
(aB (Addr.add (Addr.add (Addr.add a12 (Int.toNat x5*18)) (Int.toNat x10*9)) 4) h9 fun b17=>
(aB (Addr.add (Addr.add (Addr.add a12 (Int.toNat x5*18)) (Int.toNat x10*9)) 5) h9 fun b18=>
(aB (Addr.add (Addr.add (Addr.add a12 (Int.toNat x5*18)) (Int.toNat x10*9)) 6) h9 fun b19=>
(aB (Addr.add (Addr.add (Addr.add a12 (Int.toNat x5*18)) (Int.toNat x10*9)) 7) h9 fun b20=>
(aB (Addr.add (Addr.add (Addr.add a12 (Int.toNat x5*18)) (Int.toNat x10*9)) 8) h9 fun b21=>
(f_qcx b13 n14 n15 n16 b17 b18 b19 b20 b21 p1 (fun b22 h23=>
(bsel b22
(onSome p0 fun a24=>
(inB x5 8
(inB x10 2
(aC (Addr.add (Addr.add a24 (Int.toNat x5*18)) (Int.toNat x10*9)) (.bool false) h23 fun h25=>
(aC (Addr.add (Addr.add (Addr.add a24 (Int.toNat x5*18)) (Int.toNat x10*9)) 1) (.int .i64 (0:Int)) h25 fun h26=>
(aC (Addr.add (Addr.add (Addr.add a24 (Int.toNat x5*18)) (Int.toNat x10*9)) 2) (.int .i64 (0:Int)) h26 fun h27=>
(aC (Addr.add (Addr.add (Addr.add a24 (Int.toNat x5*18)) (Int.toNat x10*9)) 3) (.int .i64 (0:Int)) h27 fun h28=>
(aC (Addr.add (Addr.add (Addr.add a24 (Int.toNat x5*18)) (Int.toNat x10*9)) 4) (.bool false) h28 fun h29=>
(aC (Addr.add (Addr.add (Addr.add a24 (Int.toNat x5*18)) (Int.toNat x10*9)) 5) (.bool false) h29 fun h30=>
(aC (Addr.add (Addr.add (Addr.add a24 (Int.toNat x5*18)) (Int.toNat x10*9)) 6) (.bool false) h30 fun h31=>
(aC (Addr.add (Addr.add (Addr.add a24 (Int.toNat x5*18)) (Int.toNat x10*9)) 7) (.bool false) h31 fun h32=>
(aC (Addr.add (Addr.add (Addr.add a24 (Int.toNat x5*18)) (Int.toNat x10*9)) 8) (.bool false) h32 fun h33=>
(R11 h33)))))))))))))
(R11 h23))) h9))))))))))))))
(∃ m3,m3<m2∧I1 (IntKind.wrap .i64 (x5+(1:Int))) m3 h9)))
(Q h4)))
def qcy_A:qcy_T:=qcy_G qcx_A
def qcy_W (f:qcy_T):ArS [.c .p,.fn 225 [] [.p]] EnR:=fun p0 p1 K _Kp=>f p0 p1 (K (.tuple #[]))
abbrev qcz_T:=Option Addr→Bool→(AH→Prop)→AP
def qcz_G (f_qcy:qcy_T) (p0:Option Addr) (p1:Bool) (Q:AH→Prop) (h:AH):Prop:=
(newA h (.cells #[(.bool p1)] 4) fun b1 h2=>
(f_qcy p0 (some (Addr.mk b1 0 none)) (fun h3=>
(Q h3)) h2))
def qcz_A:qcz_T:=qcz_G qcy_A
def qcz_W (f:qcz_T):ArS [.c .p,.c .b] EnR:=fun p0 p1 K _Kp=>f p0 p1 (K (.tuple #[]))
abbrev qda_T:=Option Addr→Int→(Int→AH→Prop)→AP
def qda_G (f_qcw:qcw_T) (f_qcz:qcz_T) (p0:Option Addr) (p1:Int) (Q:Int→AH→Prop) (h:AH):Prop:=
(onSome p0 fun a1=>
(aP (Addr.add a1 4) h fun pt2=>
(f_qcw pt2 p1 (fun n3 b4 h5=>
(∃ R6:AH→Prop,(∀ h10,R6 h10→
(Q n3 h10))∧
(bsel b4
(onSome p0 fun a7=>
(aP (Addr.add a7 3) h5 fun pt8=>
(f_qcz pt8 true (fun h9=>
(R6 h9)) h5)))
(R6 h5)))) h)))
def qda_A:qda_T:=qda_G qcw_A qcz_A
def qda_W (f:qda_T):ArS [.c .p,.c (.i .i64)] EnR:=fun p0 p1 K _Kp=>f p0 p1 (fun r0=>K (.int .i64 r0))
abbrev qdb_T:=Int→(Int→AH→Prop)→AP
def qdb_A (p0:Int) (Q:Int→AH→Prop) (h:AH):Prop:=
(Q (bits .and .i64 p0 (7:Int)) h)
def qdb_W (f:qdb_T):ArS [.c (.i .i64)] EnR:=fun p0 K _Kp=>f p0 (fun r0=>K (.int .i64 r0))
abbrev qdc_T:=Bool→Int→Int→Int→Bool→Bool→Bool→Bool→Bool→Int→Int→(Bool→AH→Prop)→AP
def qdc_A (p0:Bool) (p1:Int) (p2:Int) (_p3:Int) (_p4:Bool) (_p5:Bool) (_p6:Bool) (p7:Bool) (_p8:Bool) (p9:Int) (p10:Int) (Q:Bool→AH→Prop) (h:AH):Prop:=
(bsel p0
(bsel (p2==p10)
(bsel (p1==p9)
(Q true h)
(Q p7 h))
(Q false h))
(Q false h))
def qdc_W (f:qdc_T):ArS [.agg [.b,(.i .i64),(.i .i64),(.i .i64),.b,.b,.b,.b,.b],.c (.i .i64),.c (.i .i64)] EnR:=fun p0 p1 p2 p3 p4 p5 p6 p7 p8 p9 p10 K _Kp=>f p0 p1 p2 p3 p4 p5 p6 p7 p8 p9 p10 (fun r0=>K (.bool r0))
abbrev qdd_T:=Bool→Int→Int→Int→Bool→Bool→Bool→Bool→Bool→Option Addr→Option Addr→(Bool→AH→Prop)→AP
def qdd_G (f_qdc:qdc_T) (p0:Bool) (p1:Int) (p2:Int) (p3:Int) (p4:Bool) (p5:Bool) (p6:Bool) (p7:Bool) (p8:Bool) (p9:Option Addr) (p10:Option Addr) (Q:Bool→AH→Prop) (h:AH):Prop:=
(onSome p9 fun a1=>
(aI .i64 a1 h fun n2=>
(onSome p10 fun a3=>
(aI .i64 a3 h fun n4=>
(f_qdc p0 p1 p2 p3 p4 p5 p6 p7 p8 n2 n4 (fun b5 h6=>
(Q b5 h6)) h)))))
def qdd_A:qdd_T:=qdd_G qdc_A
def qdd_W (f:qdd_T):ArS [.agg [.b,(.i .i64),(.i .i64),(.i .i64),.b,.b,.b,.b,.b],.c .p,.c .p] EnR:=fun p0 p1 p2 p3 p4 p5 p6 p7 p8 p9 p10 K _Kp=>f p0 p1 p2 p3 p4 p5 p6 p7 p8 p9 p10 (fun r0=>K (.bool r0))
abbrev qde_T:=Sl→Option Addr→Option Addr→(Int→AH→Prop)→AP
def qde_G (f_qdd:qdd_T) (p0:Sl) (p1:Option Addr) (p2:Option Addr) (Q:Int→AH→Prop) (h:AH):Prop:=
(∃ I1:Int→Nat→AH→Prop,(∃ m2,I1 (0:Int) m2 h)∧∀ x5:Int,∀ m2 h4,I1 x5 m2 h4→
(bsel (decide (x5<(Int.ofNat p0.len)))
(onSome p0.a fun a6=>
(inB x5 p0.len
(aB (Addr.add a6 (Int.toNat x5*9)) h4 fun b7=>
(aI .i64 (Addr.add (Addr.add a6 (Int.toNat x5*9)) 1) h4 fun n8=>
(aI .i64 (Addr.add (Addr.add a6 (Int.toNat x5*9)) 2) h4 fun n9=>
(aI .i64 (Addr.add (Addr.add a6 (Int.toNat x5*9)) 3) h4 fun n10=>
(aB (Addr.add (Addr.add a6 (Int.toNat x5*9)) 4) h4 fun b11=>
(aB (Addr.add (Addr.add a6 (Int.toNat x5*9)) 5) h4 fun b12=>
(aB (Addr.add (Addr.add a6 (Int.toNat x5*9)) 6) h4 fun b13=>
(aB (Addr.add (Addr.add a6 (Int.toNat x5*9)) 7) h4 fun b14=>
(aB (Addr.add (Addr.add a6 (Int.toNat x5*9)) 8) h4 fun b15=>
(f_qdd b7 n8 n9 n10 b11 b12 b13 b14 b15 p1 p2 (fun b16 h17=>
(bsel b16
(Q x5 h17)
(∃ m3,m3<m2∧I1 (IntKind.wrap .i64 (x5+(1:Int))) m3 h17))) h4))))))))))))
(Q (-1:Int) h4)))
def qde_A:qde_T:=qde_G qdd_A
def qde_W (f:qde_T):ArS [.c .s,.fn 193 [] [.p,.p]] EnR:=fun p0 p1 p2 K _Kp=>f p0 p1 p2 (fun r0=>K (.int .i64 r0))
abbrev qdf_T:=Option Addr→Int→Int→(Bool→Int→Int→Int→Bool→Bool→Bool→Bool→Bool→Bool→AH→Prop)→AP
def qdf_G (f_qdb:qdb_T) (f_qde:qde_T) (p0:Option Addr) (p1:Int) (p2:Int) (Q:Bool→Int→Int→Int→Bool→Bool→Bool→Bool→Bool→Bool→AH→Prop) (h:AH):Prop:=
(newA h (.cells #[(.int .i64 p1)] 3) fun b1 h2=>
(newA h2 (.cells #[(.int .i64 p2)] 3) fun b3 h4=>
(onSome p0 fun a5=>
(aI .i64 (Addr.mk b3 0 none) h4 fun n6=>
(f_qdb n6 (fun n7 h8=>
(inB n7 8
(f_qde (Sl.mk (some (Addr.add a5 (Int.toNat n7*18))) 2 2) (some (Addr.mk b1 0 none)) (some (Addr.mk b3 0 none)) (fun n9 h10=>
(bsel (decide (n9≥(0:Int)))
(inB n9 2
(aB (Addr.add (Addr.add a5 (Int.toNat n7*18)) (Int.toNat n9*9)) h10 fun b11=>
(aI .i64 (Addr.add (Addr.add (Addr.add a5 (Int.toNat n7*18)) (Int.toNat n9*9)) 1) h10 fun n12=>
(aI .i64 (Addr.add (Addr.add (Addr.add a5 (Int.toNat n7*18)) (Int.toNat n9*9)) 2) h10 fun n13=>
(aI .i64 (Addr.add (Addr.add (Addr.add a5 (Int.toNat n7*18)) (Int.toNat n9*9)) 3) h10 fun n14=>
(aB (Addr.add (Addr.add (Addr.add a5 (Int.toNat n7*18)) (Int.toNat n9*9)) 4) h10 fun b15=>
(aB (Addr.add (Addr.add (Addr.add a5 (Int.toNat n7*18)) (Int.toNat n9*9)) 5) h10 fun b16=>
(aB (Addr.add (Addr.add (Addr.add a5 (Int.toNat n7*18)) (Int.toNat n9*9)) 6) h10 fun b17=>
(aB (Addr.add (Addr.add (Addr.add a5 (Int.toNat n7*18)) (Int.toNat n9*9)) 7) h10 fun b18=>
(aB (Addr.add (Addr.add (Addr.add a5 (Int.toNat n7*18)) (Int.toNat n9*9)) 8) h10 fun b19=>
(Q b11 n12 n13 n14 b15 b16 b17 b18 b19 true h10)))))))))))
(Q (false:Bool) (0:Int) (0:Int) (0:Int) (false:Bool) (false:Bool) (false:Bool) (false:Bool) (false:Bool) false h10))) h8))) h4)))))
def qdf_A:qdf_T:=qdf_G qdb_A qde_A
def qdf_W (f:qdf_T):ArS [.c .p,.c (.i .i64),.c (.i .i64)] EnR:=fun p0 p1 p2 K _Kp=>f p0 p1 p2 (fun r0 r1 r2 r3 r4 r5 r6 r7 r8 r9=>K (.tuple #[(.agg #[(.bool r0),(.int .i64 r1),(.int .i64 r2),(.int .i64 r3),(.bool r4),(.bool r5),(.bool r6),(.bool r7),(.bool r8)]),(.bool r9)]))
abbrev qdg_T:=Bool→Bool→Bool→Bool→Bool→Bool→(Bool→AH→Prop)→AP
def qdg_A (p0:Bool) (p1:Bool) (p2:Bool) (p3:Bool) (p4:Bool) (p5:Bool) (Q:Bool→AH→Prop) (h:AH):Prop:=
(bsel p3
(bsel (!p0)
(Q false h)
(bsel p4
(bsel (!p1)
(Q false h)
(bsel p5
(Q (!(!p2)) h)
(Q true h)))
(bsel p5
(Q (!(!p2)) h)
(Q true h))))
(bsel p4
(bsel (!p1)
(Q false h)
(bsel p5
(Q (!(!p2)) h)
(Q true h)))
(bsel p5
(Q (!(!p2)) h)
(Q true h))))
def qdg_W (f:qdg_T):ArS [.agg [.b,.b,.b],.agg [.b,.b,.b]] EnR:=fun p0 p1 p2 p3 p4 p5 K _Kp=>f p0 p1 p2 p3 p4 p5 (fun r0=>K (.bool r0))
abbrev qdh_T:=Sl→Int→(Int→Int→Bool→Bool→Bool→Int→Bool→AH→Prop)→AP
def qdh_A (p0:Sl) (p1:Int) (Q:Int→Int→Bool→Bool→Bool→Int→Bool→AH→Prop) (h:AH):Prop:=
(∃ I1:Int→Int→Int→Bool→Bool→Bool→Int→Nat→AH→Prop,(∃ m2,I1 (0:Int) (0:Int) (0:Int) false false false (0:Int) m2 h)∧∀ x5:Int,∀ c6:Int,∀ c7:Int,∀ c8:Bool,∀ c9:Bool,∀ c10:Bool,∀ c11:Int,∀ m2 h4,I1 x5 c6 c7 c8 c9 c10 c11 m2 h4→
(bsel (decide (x5<(Int.ofNat p0.len)))
(onSome p0.a fun a12=>
(inB x5 p0.len
(aI .i64 (Addr.add a12 (Int.toNat x5*6)) h4 fun n13=>
(aI .i64 (Addr.add (Addr.add a12 (Int.toNat x5*6)) 1) h4 fun n14=>
(aB (Addr.add (Addr.add a12 (Int.toNat x5*6)) 2) h4 fun b15=>
(aB (Addr.add (Addr.add a12 (Int.toNat x5*6)) 3) h4 fun b16=>
(aB (Addr.add (Addr.add a12 (Int.toNat x5*6)) 4) h4 fun b17=>
(aI .i64 (Addr.add (Addr.add a12 (Int.toNat x5*6)) 5) h4 fun n18=>
(bsel (decide (n13≤p1))
(bsel (decide (p1<n14))
(Q n13 n14 b15 b16 b17 n18 true h4)
(∃ m3,m3<m2∧I1 (IntKind.wrap .i64 (x5+(1:Int))) c6 c7 c8 c9 c10 c11 m3 h4))
(∃ m3,m3<m2∧I1 (IntKind.wrap .i64 (x5+(1:Int))) c6 c7 c8 c9 c10 c11 m3 h4))))))))))
(Q (0:Int) (0:Int) (false:Bool) (false:Bool) (false:Bool) (0:Int) false h4)))
def qdh_W (f:qdh_T):ArS [.c .s,.c (.i .i64)] EnR:=fun p0 p1 K _Kp=>f p0 p1 (fun r0 r1 r2 r3 r4 r5 r6=>K (.tuple #[(.agg #[(.int .i64 r0),(.int .i64 r1),(.bool r2),(.bool r3),(.bool r4),(.int .i64 r5)]),(.bool r6)]))
abbrev qdi_T:=Int→(Int→Int→Int→Int→Int→AH→Prop)→AP
def qdi_A (p0:Int) (Q:Int→Int→Int→Int→Int→AH→Prop) (h:AH):Prop:=
(newA h (.cells #[(.int .i64 (0:Int)),(.int .i64 (0:Int)),(.int .i64 (0:Int)),(.int .i64 (0:Int))] 195) fun b1 h2=>
(∃ I3:Int→Nat→AH→Prop,(∃ m4,I3 (0:Int) m4 h2)∧∀ x7:Int,∀ m4 h6,I3 x7 m4 h6→
(bsel (decide (x7<(4:Int)))
(bsel (decide ((IntKind.wrap .i64 ((39:Int)-(IntKind.wrap .i64 ((9:Int)*x7))))<0)) False
(inB x7 4
(aC (Addr.add (Addr.mk b1 0 none) (Int.toNat x7*1)) (.int .i64 (IntKind.wrap .i64 (bits .and .u64 (Int.fdiv p0 (2 ^ (min (Int.toNat (IntKind.wrap .i64 ((39:Int)-(IntKind.wrap .i64 ((9:Int)*x7))))) 64))) (511:Int)))) h6 fun h8=>
(∃ m5,m5<m4∧I3 (IntKind.wrap .i64 (x7+(1:Int))) m5 h8))))
(aI .i64 (Addr.mk b1 0 none) h6 fun n9=>
(aI .i64 (Addr.add (Addr.mk b1 0 none) 1) h6 fun n10=>
(aI .i64 (Addr.add (Addr.mk b1 0 none) 2) h6 fun n11=>
(aI .i64 (Addr.add (Addr.mk b1 0 none) 3) h6 fun n12=>
(Q n9 n10 n11 n12 (IntKind.wrap .i64 (bits .and .u64 p0 (4095:Int))) h6))))))))
def qdi_W (f:qdi_T):ArS [.c (.i .u64)] EnR:=fun p0 K _Kp=>f p0 (fun r0 r1 r2 r3 r4=>K (.tuple #[(.agg #[(.int .i64 r0),(.int .i64 r1),(.int .i64 r2),(.int .i64 r3)]),(.int .i64 r4)]))
abbrev qdj_T:=Int→(Int→Int→Int→Int→AH→Prop)→AP
def qdj_G (f_qdi:qdi_T) (p0:Int) (Q:Int→Int→Int→Int→AH→Prop) (h:AH):Prop:=
(f_qdi (IntKind.wrap .u64 ((IntKind.wrap .u64 p0)*(4096:Int))) (fun n1 n2 n3 n4 _ h6=>
(Q n1 n2 n3 n4 h6)) h)
def qdj_A:qdj_T:=qdj_G qdi_A
def qdj_W (f:qdj_T):ArS [.c (.i .i64)] EnR:=fun p0 K _Kp=>f p0 (fun r0 r1 r2 r3=>K (.agg #[(.int .i64 r0),(.int .i64 r1),(.int .i64 r2),(.int .i64 r3)]))
abbrev qdk_T:=Option Addr→Int→Int→(Int→Int→AH→Prop)→AP
def qdk_G (f_qbn:qbn_T) (p0:Option Addr) (p1:Int) (p2:Int) (Q:Int→Int→AH→Prop) (h:AH):Prop:=
(f_qbn p0 p1 p2 (fun n1 h2=>
(bsel (n1 != (0:Int))
(Q (0:Int) n1 h2)
(∃ I3:Int→Int→Nat→AH→Prop,(∃ m4,I3 (0:Int) (IntKind.wrap .i64 (p2-(1:Int))) m4 h2)∧∀ x7:Int,∀ x8:Int,∀ m4 h6,I3 x7 x8 m4 h6→
(bsel (decide (x8≥(0:Int)))
(∃ R9:Int→AH→Prop,(∀ x16:Int,∀ h17,R9 x16 h17→
(∃ m5,m5<m4∧I3 x16 (IntKind.wrap .i64 (x8-(1:Int))) m5 h17))∧
(onSome p0 fun a10=>
(aM (Addr.add a10 2) h6 fun mp11=>
(aLk h6 mp11 .i64 (IntKind.wrap .i64 (IntKind.wrap .u64 (Int.tdiv (IntKind.wrap .u64 (p1+(IntKind.wrap .u64 x8))) (4096:Int)))) fun o12=>
(∃ pt13:Option Addr,((o12.getD (.pointer none)):Value)=(.pointer pt13)∧
(bsel (!pt13.isNone)
(onSome pt13 fun a14=>
(inB (Int.tmod (IntKind.wrap .u64 (p1+(IntKind.wrap .u64 x8))) (4096:Int)) 4096
(aI .u8 (Addr.add a14 (Int.toNat (Int.tmod (IntKind.wrap .u64 (p1+(IntKind.wrap .u64 x8))) (4096:Int))*1)) h6 fun n15=>
(R9 (bits .or .u64 (IntKind.wrap .u64 (x7*2 ^ (8:Nat))) (IntKind.wrap .u64 n15)) h6))))
(R9 (IntKind.wrap .u64 (x7*2 ^ (8:Nat))) h6)))))))
(Q x7 (0:Int) h6))))) h)
def qdk_A:qdk_T:=qdk_G qbn_A
def qdk_W (f:qdk_T):ArS [.c .p,.c (.i .u64),.c (.i .i64)] EnR:=fun p0 p1 p2 K _Kp=>f p0 p1 p2 (fun r0 r1=>K (.tuple #[(.int .u64 r0),(.int .i64 r1)]))
abbrev qdl_T:=Int→(Bool→Bool→Bool→Bool→Bool→Bool→Bool→Bool→Int→AH→Prop)→AP
def qdl_G (f_qbj:qbj_T) (f_qbk:qbk_T) (p0:Int) (Q:Bool→Bool→Bool→Bool→Bool→Bool→Bool→Bool→Int→AH→Prop) (h:AH):Prop:=
(newA h (.cells #[(.bool false),(.bool false),(.bool false),(.bool false),(.bool false),(.bool false),(.bool false),(.bool false),(.int .i64 (0:Int))] 193) fun b1 h2=>
(aC (Addr.mk b1 0 none) (.bool false) h2 fun h3=>
(aC (Addr.add (Addr.mk b1 0 none) 1) (.bool false) h3 fun h4=>
(aC (Addr.add (Addr.mk b1 0 none) 2) (.bool false) h4 fun h5=>
(aC (Addr.add (Addr.mk b1 0 none) 3) (.bool false) h5 fun h6=>
(aC (Addr.add (Addr.mk b1 0 none) 4) (.bool false) h6 fun h7=>
(aC (Addr.add (Addr.mk b1 0 none) 5) (.bool false) h7 fun h8=>
(aC (Addr.add (Addr.mk b1 0 none) 6) (.bool false) h8 fun h9=>
(aC (Addr.add (Addr.mk b1 0 none) 7) (.bool false) h9 fun h10=>
(aC (Addr.add (Addr.mk b1 0 none) 8) (.int .i64 (IntKind.wrap .i64 (bits .and .u64 (Int.fdiv p0 (2 ^ (12:Nat))) (1048575:Int)))) h10 fun h11=>
(f_qbj (some (Addr.mk b1 0 none)) (fun pt12 pt13 pt14 pt15 pt16 pt17 pt18 pt19 h20=>
(∃ I21:Int→Nat→AH→Prop,(∃ m22,I21 (0:Int) m22 h20)∧∀ x25:Int,∀ m22 h24,I21 x25 m22 h24→
(bsel (decide (x25<(8:Int)))
(inB x25 8
(geP [(.pointer pt12),(.pointer pt13),(.pointer pt14),(.pointer pt15),(.pointer pt16),(.pointer pt17),(.pointer pt18),(.pointer pt19)] (Int.toNat x25) fun n26=>
(f_qbk (fun n27 n28 n29 n30 n31 n32 n33 n34 h35=>
(inB x25 8
(geI .i64 [(.int .i64 n27),(.int .i64 n28),(.int .i64 n29),(.int .i64 n30),(.int .i64 n31),(.int .i64 n32),(.int .i64 n33),(.int .i64 n34)] (Int.toNat x25) fun n36=>
(bsel (decide (n36<0)) False
(onSome n26 fun a37=>
(aC a37 (.bool ((bits .and .u64 (Int.fdiv p0 (2 ^ (min (Int.toNat n36) 64))) (1:Int))==(1:Int))) h35 fun h38=>
(∃ m23,m23<m22∧I21 (IntKind.wrap .i64 (x25+(1:Int))) m23 h38))))))) h24)))
(aB (Addr.mk b1 0 none) h24 fun b39=>
(aB (Addr.add (Addr.mk b1 0 none) 1) h24 fun b40=>
(aB (Addr.add (Addr.mk b1 0 none) 2) h24 fun b41=>
(aB (Addr.add (Addr.mk b1 0 none) 3) h24 fun b42=>
(aB (Addr.add (Addr.mk b1 0 none) 4) h24 fun b43=>
(aB (Addr.add (Addr.mk b1 0 none) 5) h24 fun b44=>
(aB (Addr.add (Addr.mk b1 0 none) 6) h24 fun b45=>
(aB (Addr.add (Addr.mk b1 0 none) 7) h24 fun b46=>
(aI .i64 (Addr.add (Addr.mk b1 0 none) 8) h24 fun n47=>
(Q b39 b40 b41 b42 b43 b44 b45 b46 n47 h24))))))))))))) h11)))))))))))
def qdl_A:qdl_T:=qdl_G qbj_A qbk_A
def qdl_W (f:qdl_T):ArS [.c (.i .u64)] EnR:=fun p0 K _Kp=>f p0 (fun r0 r1 r2 r3 r4 r5 r6 r7 r8=>K (.agg #[(.bool r0),(.bool r1),(.bool r2),(.bool r3),(.bool r4),(.bool r5),(.bool r6),(.bool r7),(.int .i64 r8)]))
abbrev qdm_T:=Option Addr→Option Addr→Option Addr→Int→Int→Int→(Bool→Bool→Bool→Bool→Bool→Bool→Bool→Bool→Int→AH→Prop)→AP
def qdm_G (f_qbm:qbm_T) (f_qdk:qdk_T) (f_qdl:qdl_T) (p0:Option Addr) (_p1:Option Addr) (_p2:Option Addr) (_p3:Int) (p4:Int) (p5:Int) (Q:Bool→Bool→Bool→Bool→Bool→Bool→Bool→Bool→Int→AH→Prop) (h:AH):Prop:=
(f_qbm p4 p5 (fun n1 h2=>
(f_qdk p0 n1 (8:Int) (fun n3 _ h5=>
(f_qdl n3 (fun b6 b7 b8 b9 b10 b11 b12 b13 n14 h15=>
(Q b6 b7 b8 b9 b10 b11 b12 b13 n14 h15)) h5)) h2)) h)
def qdm_A:qdm_T:=qdm_G qbm_A qdk_A qdl_A
def qdm_W (f:qdm_T):ArS [.agg [.p,.p,.p,(.i .i64)],.c (.i .i64),.c (.i .i64)] EnR:=fun p0 p1 p2 p3 p4 p5 K _Kp=>f p0 p1 p2 p3 p4 p5 (fun r0 r1 r2 r3 r4 r5 r6 r7 r8=>K (.agg #[(.bool r0),(.bool r1),(.bool r2),(.bool r3),(.bool r4),(.bool r5),(.bool r6),(.bool r7),(.int .i64 r8)]))
abbrev qdn_T:=Option Addr→Option Addr→Option Addr→Int→Int→Int→(Sl→AH→Prop)→AP
def qdn_G (f_qdj:qdj_T) (f_qdm:qdm_T) (p0:Option Addr) (p1:Option Addr) (p2:Option Addr) (p3:Int) (p4:Int) (p5:Int) (Q:Sl→AH→Prop) (h:AH):Prop:=
(f_qdj p5 (fun n1 n2 n3 n4 h5=>
(newA h5 (.cells #[(.int .i64 (0:Int)),(.int .i64 (0:Int)),(.int .i64 (0:Int)),(.int .i64 (0:Int))] 195) fun b6 h7=>
(aC (Addr.mk b6 0 none) (.int .i64 n1) h7 fun h8=>
(aC (Addr.add (Addr.mk b6 0 none) 1) (.int .i64 n2) h8 fun h9=>
(aC (Addr.add (Addr.mk b6 0 none) 2) (.int .i64 n3) h9 fun h10=>
(aC (Addr.add (Addr.mk b6 0 none) 3) (.int .i64 n4) h10 fun h11=>
(newA h11 (.cells #[(.int .i64 p4)] 3) fun b12 h13=>
(∃ R14:Sl→AH→Prop,(∀ s38:Sl,∀ h39,R14 s38 h39→
(Q s38 h39))∧
(∃ I15:Sl→Int→Nat→AH→Prop,(∃ m16,I15 (Sl.mk (some (Addr.mk b12 0 none)) 1 1) (0:Int) m16 h13)∧∀ s19:Sl,∀ x20:Int,∀ m16 h18,I15 s19 x20 m16 h18→
(bsel (decide (x20<(3:Int)))
(onSome s19.a fun a21=>
(inB x20 s19.len
(inB x20 4
(aI .i64 (Addr.add a21 (Int.toNat x20*1)) h18 fun n22=>
(aI .i64 (Addr.add (Addr.mk b6 0 none) (Int.toNat x20*1)) h18 fun n23=>
(f_qdm p0 p1 p2 p3 n22 n23 (fun b24 _ _ _ _ _ _ _ n32 h33=>
(bsel (!b24)
(R14 s19 h33)
(newA h33 (.cells #[(.int .i64 n32)] 3) fun b34 h35=>
(apA 1 8 #[(.int .i64 (0:Int))] 3 s19 (Sl.mk (some (Addr.mk b34 0 none)) 1 1) h35 fun s36 h37=>
(∃ m17,m17<m16∧I15 s36 (IntKind.wrap .i64 (x20+(1:Int))) m17 h37))))) h18))))))
(R14 s19 h18))))))))))) h)
def qdn_A:qdn_T:=qdn_G qdj_A qdm_A
def qdn_W (f:qdn_T):ArS [.agg [.p,.p,.p,(.i .i64)],.c (.i .i64),.c (.i .i64)] EnR:=fun p0 p1 p2 p3 p4 p5 K _Kp=>f p0 p1 p2 p3 p4 p5 (fun r0=>K (.slice r0.a r0.len r0.cap))
abbrev qdo_T:=Option Addr→Option Addr→Option Addr→Int→Int→Int→(Int→Bool→Bool→Bool→Bool→AH→Prop)→AP
def qdo_G (f_qdn:qdn_T) (f_qdj:qdj_T) (f_qdm:qdm_T) (p0:Option Addr) (p1:Option Addr) (p2:Option Addr) (p3:Int) (p4:Int) (p5:Int) (Q:Int→Bool→Bool→Bool→Bool→AH→Prop) (h:AH):Prop:=
(∃ R1:Bool→Bool→Bool→AH→Prop,(∀ c2:Bool,∀ c3:Bool,∀ c4:Bool,∀ h5,R1 c2 c3 c4 h5→
(f_qdn p0 p1 p2 p3 p4 p5 (fun s6 h7=>
(bsel (decide ((Int.ofNat s6.len)<(4:Int)))
(Q (0:Int) (false:Bool) (false:Bool) (false:Bool) false h7)
(onSome s6.a fun a8=>
(inB (3:Int) s6.len
(aI .i64 (Addr.add a8 3) h7 fun n9=>
(f_qdj p5 (fun n10 n11 n12 n13 h14=>
((aI .i64 (Addr.add a8 3) h14 fun n15=>
(((.int .i64 n15):Value)=(.int .i64 n9)))∧
(geI .i64 [(.int .i64 n10),(.int .i64 n11),(.int .i64 n12),(.int .i64 n13)] 3 fun n16=>
(f_qdm p0 p1 p2 p3 n9 n16 (fun b17 b18 b19 _ _ _ _ b24 n25 h26=>
(bsel (!b17)
(Q (0:Int) (false:Bool) (false:Bool) (false:Bool) false h26)
(Q n25 b18 b19 ((!b24):Bool) true h26))) h14)))) h7)))))) h5))∧
(bsel (decide (p5<(0:Int)))
(Q (0:Int) (false:Bool) (false:Bool) (false:Bool) false h)
(bsel (decide (p5≥(34359738368:Int)))
(Q (0:Int) (false:Bool) (false:Bool) (false:Bool) false h)
(R1 false false false h))))
def qdo_A:qdo_T:=qdo_G qdn_A qdj_A qdm_A
def qdo_W (f:qdo_T):ArS [.agg [.p,.p,.p,(.i .i64)],.c (.i .i64),.c (.i .i64)] EnR:=fun p0 p1 p2 p3 p4 p5 K _Kp=>f p0 p1 p2 p3 p4 p5 (fun r0 r1 r2 r3 r4=>K (.tuple #[(.int .i64 r0),(.agg #[(.bool r1),(.bool r2),(.bool r3)]),(.bool r4)]))
abbrev qdp_T:=Int→Bool→Bool→Bool→(Bool→Bool→Bool→Bool→Bool→Bool→Bool→Bool→Int→AH→Prop)→AP
def qdp_A (p0:Int) (p1:Bool) (p2:Bool) (p3:Bool) (Q:Bool→Bool→Bool→Bool→Bool→Bool→Bool→Bool→Int→AH→Prop) (h:AH):Prop:=
(Q (true:Bool) p1 p2 (false:Bool) (false:Bool) (false:Bool) (false:Bool) ((!p3):Bool) p0 h)
def qdp_W (f:qdp_T):ArS [.c (.i .i64),.agg [.b,.b,.b]] EnR:=fun p0 p1 p2 p3 K _Kp=>f p0 p1 p2 p3 (fun r0 r1 r2 r3 r4 r5 r6 r7 r8=>K (.agg #[(.bool r0),(.bool r1),(.bool r2),(.bool r3),(.bool r4),(.bool r5),(.bool r6),(.bool r7),(.int .i64 r8)]))
abbrev qdq_T:=Option Addr→Option Addr→Option Addr→Int→Int→Int→Int→Bool→Bool→Bool→(Int→AH→Prop)→AP
def qdq_G (f_qdj:qdj_T) (f_qdn:qdn_T) (f_qdm:qdm_T) (f_qbg:qbg_T) (f_qbi:qbi_T) (f_qbq:qbq_T) (f_qdp:qdp_T) (p0:Option Addr) (p1:Option Addr) (p2:Option Addr) (p3:Int) (p4:Int) (p5:Int) (p6:Int) (p7:Bool) (p8:Bool) (p9:Bool) (Q:Int→AH→Prop) (h:AH):Prop:=
(∃ R1:AH→Prop,(∀ h2,R1 h2→
(f_qdj p5 (fun n3 n4 n5 n6 h7=>
(f_qdn p0 p1 p2 p3 p4 p5 (fun s8 h9=>
(newA h9 (.cells #[(.int .i64 (0:Int)),(.int .i64 (0:Int)),(.int .i64 (0:Int)),(.int .i64 (0:Int))] 195) fun b10 h11=>
(aC (Addr.mk b10 0 none) (.int .i64 n3) h11 fun h12=>
(aC (Addr.add (Addr.mk b10 0 none) 1) (.int .i64 n4) h12 fun h13=>
(aC (Addr.add (Addr.mk b10 0 none) 2) (.int .i64 n5) h13 fun h14=>
(aC (Addr.add (Addr.mk b10 0 none) 3) (.int .i64 n6) h14 fun h15=>
(∃ R16:AH→Prop,(∀ h30,R16 h30→
(∃ I31:Sl→Int→Nat→AH→Prop,(∃ m32,I31 Sl.nil (0:Int) m32 h30)∧∀ s35:Sl,∀ x36:Int,∀ m32 h34,I31 s35 x36 m32 h34→
(bsel (decide (x36<(IntKind.wrap .i64 ((4:Int)-(Int.ofNat s8.len)))))
(f_qbg p0 p1 p2 p3 (fun n37 n38 h39=>
(bsel (n38 != (0:Int))
(∃ I40:Int→Nat→AH→Prop,(∃ m41,I40 (0:Int) m41 h39)∧∀ x44:Int,∀ m41 h43,I40 x44 m41 h43→
(bsel (decide (x44<(Int.ofNat s35.len)))
(onSome s35.a fun a45=>
(inB x44 s35.len
(aI .i64 (Addr.add a45 (Int.toNat x44*1)) h43 fun n46=>
(f_qbi p0 p1 p2 p3 n46 (fun h47=>
(∃ m42,m42<m41∧I40 (IntKind.wrap .i64 (x44+(1:Int))) m42 h47)) h43))))
(Q n38 h43)))
(newA h39 (.cells #[(.int .i64 n37)] 3) fun b48 h49=>
(apA 1 8 #[(.int .i64 (0:Int))] 3 s35 (Sl.mk (some (Addr.mk b48 0 none)) 1 1) h49 fun s50 h51=>
(∃ m33,m33<m32∧I31 s50 (IntKind.wrap .i64 (x36+(1:Int))) m33 h51))))) h34)
(∃ I52:Sl→Int→Nat→AH→Prop,(∃ m53,I52 s8 (0:Int) m53 h34)∧∀ s56:Sl,∀ x57:Int,∀ m53 h55,I52 s56 x57 m53 h55→
(bsel (decide (x57<(Int.ofNat s35.len)))
(onSome s35.a fun a58=>
(inB x57 s35.len
(aI .i64 (Addr.add a58 (Int.toNat x57*1)) h55 fun n59=>
(onSome s56.a fun a60=>
(inB (IntKind.wrap .i64 ((Int.ofNat s56.len)-(1:Int))) s56.len
(aI .i64 (Addr.add a60 (Int.toNat (IntKind.wrap .i64 ((Int.ofNat s56.len)-(1:Int)))*1)) h55 fun n61=>
(inB (IntKind.wrap .i64 ((Int.ofNat s56.len)-(1:Int))) 4
(aI .i64 (Addr.add (Addr.mk b10 0 none) (Int.toNat (IntKind.wrap .i64 ((Int.ofNat s56.len)-(1:Int)))*1)) h55 fun n62=>
(f_qbq p0 p1 p2 p3 n61 n62 true true true false false false false false n59 (fun h63=>
(newA h63 (.cells #[(.int .i64 n59)] 3) fun b64 h65=>
(apA 1 8 #[(.int .i64 (0:Int))] 3 s56 (Sl.mk (some (Addr.mk b64 0 none)) 1 1) h65 fun s66 h67=>
(∃ m54,m54<m53∧I52 s66 (IntKind.wrap .i64 (x57+(1:Int))) m54 h67)))) h55)))))))))
(onSome s56.a fun a68=>
(inB (3:Int) s56.len
(aI .i64 (Addr.add a68 3) h55 fun n69=>
(aI .i64 (Addr.add (Addr.mk b10 0 none) 3) h55 fun n70=>
(f_qdp p6 p7 p8 p9 (fun b71 b72 b73 b74 b75 b76 b77 b78 n79 h80=>
((aI .i64 (Addr.add (Addr.mk b10 0 none) 3) h80 fun n81=>
(((.int .i64 n81):Value)=(.int .i64 n70)))∧
((aI .i64 (Addr.add a68 3) h80 fun n82=>
(((.int .i64 n82):Value)=(.int .i64 n69)))∧
(f_qbq p0 p1 p2 p3 n69 n70 b71 b72 b73 b74 b75 b76 b77 b78 n79 (fun h83=>
(Q (0:Int) h83)) h80)))) h55))))))))))∧
(bsel ((Int.ofNat s8.len)==(4:Int))
(onSome s8.a fun a17=>
(inB (3:Int) s8.len
(aI .i64 (Addr.add a17 3) h15 fun n18=>
(aI .i64 (Addr.add (Addr.mk b10 0 none) 3) h15 fun n19=>
(f_qdm p0 p1 p2 p3 n18 n19 (fun b20 _ _ _ _ _ _ _ _ h29=>
(bsel b20
(Q (6:Int) h29)
(R16 h29))) h15)))))
(R16 h15))))))))) h7)) h2))∧
(bsel (decide (p5<(0:Int)))
(Q (1:Int) h)
(bsel (decide (p5≥(34359738368:Int)))
(Q (1:Int) h)
(bsel (decide (p6<(0:Int)))
(Q (1:Int) h)
(bsel (decide (p6≥(1048576:Int)))
(Q (1:Int) h)
(R1 h))))))
def qdq_A:qdq_T:=qdq_G qdj_A qdn_A qdm_A qbg_A qbi_A qbq_A qdp_A
def qdq_W (f:qdq_T):ArS [.agg [.p,.p,.p,(.i .i64)],.c (.i .i64),.c (.i .i64),.c (.i .i64),.agg [.b,.b,.b]] EnR:=fun p0 p1 p2 p3 p4 p5 p6 p7 p8 p9 K _Kp=>f p0 p1 p2 p3 p4 p5 p6 p7 p8 p9 (fun r0=>K (.int .i64 r0))
abbrev qdr_T:=Option Addr→Int→Int→Bool→Bool→Bool→(Int→Int→Int→AH→Prop)→AP
def qdr_G (f_qdh:qdh_T) (f_qau:qau_T) (f_qdo:qdo_T) (f_qdg:qdg_T) (f_qbg:qbg_T) (f_qdq:qdq_T) (f_qbi:qbi_T) (p0:Option Addr) (p1:Int) (p2:Int) (p3:Bool) (p4:Bool) (p5:Bool) (Q:Int→Int→Int→AH→Prop) (h:AH):Prop:=
(onSome p0 fun a1=>
(aM (Addr.add a1 6) h fun mp2=>
(aLk h mp2 .i64 p1 fun o3=>
(∃ pt4:Option Addr,((o3.getD (.pointer none)):Value)=(.pointer pt4)∧
(bsel pt4.isNone
(Q (0:Int) (0:Int) (5:Int) h)
(newA h (.cells #[(.bool p3),(.bool p4)] 4) fun b5 h6=>
(∃ I7:Int→Int→Nat→AH→Prop,(∃ m8,I7 (0:Int) (0:Int) m8 h6)∧∀ x11:Int,∀ x12:Int,∀ m8 h10,I7 x11 x12 m8 h10→
(bsel (decide (x12<(2:Int)))
(∃ R13:Int→AH→Prop,(∀ x15:Int,∀ h16,R13 x15 h16→
(∃ m9,m9<m8∧I7 x15 (IntKind.wrap .i64 (x12+(1:Int))) m9 h16))∧
(inB x12 2
(aB (Addr.add (Addr.mk b5 0 none) (Int.toNat x12*1)) h10 fun b14=>
(bsel b14
(bsel (decide (x12<0)) False
(R13 (bits .or .i64 x11 (IntKind.wrap .i64 ((2:Int)*2 ^ (min (Int.toNat x12) 64)))) h10))
(R13 x11 h10)))))
(∃ R17:Int→AH→Prop,(∀ x18:Int,∀ h19,R17 x18 h19→
(onSome pt4 fun a20=>
(aS (Addr.add a20 2) h19 fun s21=>
(f_qdh s21 p2 (fun _ _ b24 b25 b26 _ b28 h29=>
(bsel (!b28)
(Q (0:Int) x18 (9:Int) h29)
(onSome pt4 fun a30=>
(aI .i64 a30 h29 fun n31=>
(f_qau p0 n31 (fun pt32 pt33 pt34 n35 h36=>
(onSome pt4 fun a37=>
(aI .i64 (Addr.add a37 1) h36 fun n38=>
(f_qdo pt32 pt33 pt34 n35 n38 p2 (fun n39 _ _ _ b43 h44=>
(f_qdg b24 b25 b26 p3 p4 p5 (fun b45 h46=>
(bsel (!b45)
(∃ R47:Int→AH→Prop,(∀ x48:Int,∀ h49,R47 x48 h49→
(Q (0:Int) x48 (9:Int) h49))∧
(bsel b43
(R47 (bits .or .i64 x18 (1:Int)) h46)
(R47 x18 h46)))
(bsel b43
(Q n39 (0:Int) (0:Int) h46)
(f_qbg pt32 pt33 pt34 n35 (fun n50 n51 h52=>
(bsel (n51 != (0:Int))
(Q (0:Int) (0:Int) n51 h52)
(onSome pt4 fun a53=>
(aI .i64 (Addr.add a53 1) h52 fun n54=>
(f_qdq pt32 pt33 pt34 n35 n54 p2 n50 b24 b25 b26 (fun n55 h56=>
(bsel (n55 != (0:Int))
(f_qbi pt32 pt33 pt34 n35 n50 (fun h57=>
(Q (0:Int) (0:Int) n55 h57)) h56)
(Q n50 (0:Int) (0:Int) h56))) h52))))) h46)))) h44)) h36)))) h29))))) h19))))∧
(bsel p5
(R17 (bits .or .i64 x11 (16:Int)) h10)
(R17 x11 h10)))))))))))
def qdr_A:qdr_T:=qdr_G qdh_A qau_A qdo_A qdg_A qbg_A qdq_A qbi_A
def qdr_W (f:qdr_T):ArS [.c .p,.c (.i .i64),.c (.i .i64),.agg [.b,.b,.b]] EnR:=fun p0 p1 p2 p3 p4 p5 K _Kp=>f p0 p1 p2 p3 p4 p5 (fun r0 r1 r2=>K (.tuple #[(.int .i64 r0),(.int .i64 r1),(.int .i64 r2)]))
abbrev qds_T:=Int→(Bool→AH→Prop)→AP
def qds_A (p0:Int) (Q:Bool→AH→Prop) (h:AH):Prop:=
(bsel ((Int.fdiv p0 (2 ^ (47:Nat)))==(0:Int))
(Q true h)
(Q ((Int.fdiv p0 (2 ^ (47:Nat)))==(131071:Int)) h))
def qds_W (f:qds_T):ArS [.c (.i .u64)] EnR:=fun p0 K _Kp=>f p0 (fun r0=>K (.bool r0))
abbrev qdt_T:=Option Addr→Int→(AH→Prop)→(Value→AP)→AP
def qdt_A (p0:Option Addr) (p1:Int) (_Q:AH→Prop) (Kp:Value→AP) (h:AH):Prop:=
(∃ R1:Int→AH→Prop,(∀ x4:Int,∀ h5,R1 x4 h5→
(∃ R6:Int→AH→Prop,(∀ x9:Int,∀ h10,R6 x9 h10→
(∃ R11:Int→AH→Prop,(∀ x14:Int,∀ h15,R11 x14 h15→
(onSome p0 fun a16=>
(aI .u64 (Addr.add a16 1) h15 fun n17=>
(Kp (.iface 317 (.agg #[(.int .u64 n17),(.int .i64 x14),(.int .i64 (9:Int))])) h15))))∧
(onSome p0 fun a12=>
(aB (Addr.add (Addr.add a12 2) 2) h10 fun b13=>
(bsel b13
(R11 (bits .or .i64 x9 (16:Int)) h10)
(R11 x9 h10))))))∧
(onSome p0 fun a7=>
(aB (Addr.add (Addr.add a7 2) 1) h5 fun b8=>
(bsel b8
(R6 (bits .or .i64 x4 (4:Int)) h5)
(R6 x4 h5))))))∧
(onSome p0 fun a2=>
(aB (Addr.add a2 2) h fun b3=>
(bsel b3
(R1 (bits .or .i64 p1 (2:Int)) h)
(R1 p1 h)))))
def qdt_W (f:qdt_T):ArS [.c .p,.c (.i .i64)] EnR:=fun p0 p1 K Kp=>f p0 p1 (K (.tuple #[])) Kp
abbrev qdu_T:=Int→Int→(Bool→AH→Prop)→AP
def qdu_A (p0:Int) (p1:Int) (Q:Bool→AH→Prop) (h:AH):Prop:=
(bsel ((bits .and .u64 p0 (1:Int))==(0:Int))
(Q false h)
(bsel ((bits .and .u64 (Int.fdiv p0 (2 ^ (32:Nat))) (1048575:Int)) != (0:Int))
(Q true h)
(bsel (decide (p1≥(3:Int)))
(Q ((bits .and .u64 (Int.fdiv p0 (2 ^ (7:Nat))) (1:Int))==(1:Int)) h)
(bsel (p1==(2:Int))
(bsel ((bits .and .u64 (Int.fdiv p0 (2 ^ (7:Nat))) (1:Int))==(1:Int))
(Q ((bits .and .u64 (Int.fdiv p0 (2 ^ (12:Nat))) (511:Int)) != (0:Int)) h)
(Q false h))
(Q false h)))))
def qdu_W (f:qdu_T):ArS [.c (.i .u64),.c (.i .i64)] EnR:=fun p0 p1 K _Kp=>f p0 p1 (fun r0=>K (.bool r0))
abbrev qdv_T:=Option Addr→Int→Int→Int→(Int→Int→AH→Prop)→(Value→AP)→AP
def qdv_G (f_qdk:qdk_T) (f_qdt:qdt_T) (f_qdu:qdu_T) (f_qdl:qdl_T) (p0:Option Addr) (p1:Int) (p2:Int) (p3:Int) (Q:Int→Int→AH→Prop) (Kp:Value→AP) (h:AH):Prop:=
(onSome p0 fun a1=>
(aP a1 h fun pt2=>
(f_qdk pt2 (IntKind.wrap .u64 ((IntKind.wrap .u64 ((IntKind.wrap .u64 p1)*(4096:Int)))+(IntKind.wrap .u64 (IntKind.wrap .i64 ((8:Int)*p2))))) (8:Int) (fun n3 n4 h5=>
(∃ R6:AH→Prop,(∀ h7,R6 h7→
(∃ R8:AH→Prop,(∀ h12,R8 h12→
(∃ R13:AH→Prop,(∀ h19,R13 h19→
(f_qdl n3 (fun _ b21 b22 _ _ _ _ b27 _ h29=>
(∃ R30:AH→Prop,(∀ h37,R30 h37→
(∃ R38:AH→Prop,(∀ h45,R38 h45→
(onSome p0 fun a46=>
(aB (Addr.add (Addr.add a46 5) 2) h45 fun b47=>
(bsel b47
(onSome p0 fun a48=>
(aC (Addr.add (Addr.add a48 5) 2) (.bool (!b27)) h45 fun h49=>
(Q n3 (IntKind.wrap .u64 ((IntKind.wrap .u64 ((IntKind.wrap .u64 p1)*(4096:Int)))+(IntKind.wrap .u64 (IntKind.wrap .i64 ((8:Int)*p2))))) h49)))
(onSome p0 fun a50=>
(aC (Addr.add (Addr.add a50 5) 2) (.bool false) h45 fun h51=>
(Q n3 (IntKind.wrap .u64 ((IntKind.wrap .u64 ((IntKind.wrap .u64 p1)*(4096:Int)))+(IntKind.wrap .u64 (IntKind.wrap .i64 ((8:Int)*p2))))) h51)))))))∧
(onSome p0 fun a39=>
(aB (Addr.add (Addr.add a39 5) 1) h37 fun b40=>
(bsel b40
(onSome p0 fun a41=>
(aC (Addr.add (Addr.add a41 5) 1) (.bool b22) h37 fun h42=>
(R38 h42)))
(onSome p0 fun a43=>
(aC (Addr.add (Addr.add a43 5) 1) (.bool false) h37 fun h44=>
(R38 h44))))))))∧
(onSome p0 fun a31=>
(aB (Addr.add a31 5) h29 fun b32=>
(bsel b32
(onSome p0 fun a33=>
(aC (Addr.add a33 5) (.bool b21) h29 fun h34=>
(R30 h34)))
(onSome p0 fun a35=>
(aC (Addr.add a35 5) (.bool false) h29 fun h36=>
(R30 h36)))))))) h19))∧
(f_qdu n3 p3 (fun b14 h15=>
(bsel b14
(f_qdt p0 (9:Int) (fun h16=>
(R13 h16)) (fun v17 h18=>(Kp v17 h18)) h15)
(R13 h15))) h12)))∧
(bsel ((bits .and .u64 n3 (1:Int))==(0:Int))
(f_qdt p0 (0:Int) (fun h9=>
(R8 h9)) (fun v10 h11=>(Kp v10 h11)) h7)
(R8 h7))))∧
(bsel (n4 != (0:Int))
(Kp (.iface 317 (.agg #[(.int .u64 (0:Int)),(.int .i64 (0:Int)),(.int .i64 n4)])) h5)
(R6 h5)))) h)))
def qdv_A:qdv_T:=qdv_G qdk_A qdt_A qdu_A qdl_A
def qdv_W (f:qdv_T):ArS [.c .p,.c (.i .i64),.c (.i .i64),.c (.i .i64)] EnR:=fun p0 p1 p2 p3 K Kp=>f p0 p1 p2 p3 (fun r0 r1=>K (.tuple #[(.int .u64 r0),(.int .u64 r1)])) Kp
abbrev qdw_T:=Option Addr→Sl→Bool→(AH→Prop)→AP
def qdw_G (f_qdk:qdk_T) (f_qbp:qbp_T) (p0:Option Addr) (p1:Sl) (p2:Bool) (Q:AH→Prop) (h:AH):Prop:=
(∃ I1:Int→Nat→AH→Prop,(∃ m2,I1 (0:Int) m2 h)∧∀ x5:Int,∀ m2 h4,I1 x5 m2 h4→
(bsel (decide (x5<(Int.ofNat p1.len)))
(∃ R6:AH→Prop,(∀ h17,R6 h17→
(∃ m3,m3<m2∧I1 (IntKind.wrap .i64 (x5+(1:Int))) m3 h17))∧
(onSome p1.a fun a7=>
(inB x5 p1.len
(aI .u64 (Addr.add a7 (Int.toNat x5*1)) h4 fun n8=>
(f_qdk p0 n8 (8:Int) (fun n9 _ h11=>
(∃ R12:Int→AH→Prop,(∀ x13:Int,∀ h14,R12 x13 h14→
(bsel (x13 != n9)
(f_qbp p0 n8 (8:Int) x13 (fun _ h16=>
(R6 h16)) h14)
(R6 h14)))∧
(bsel p2
(bsel (x5==(IntKind.wrap .i64 ((Int.ofNat p1.len)-(1:Int))))
(R12 (bits .or .u64 (bits .or .u64 n9 (32:Int)) (64:Int)) h11)
(R12 (bits .or .u64 n9 (32:Int)) h11))
(R12 (bits .or .u64 n9 (32:Int)) h11)))) h4)))))
(Q h4)))
def qdw_A:qdw_T:=qdw_G qdk_A qbp_A
def qdw_W (f:qdw_T):ArS [.c .p,.c .s,.c .b] EnR:=fun p0 p1 p2 K _Kp=>f p0 p1 p2 (K (.tuple #[]))
abbrev qdx_Tn:=Option Addr→Option Addr→Option Addr→AP→AP
def qdx_nA (_p0:Option Addr) (_p1:Option Addr) (_p2:Option Addr) (K:AP) (h:AH):Prop:=
(K h)
abbrev qdx_Tp:=Option Addr→Option Addr→Option Addr→Int→Int→Int→AP→AP
def qdx_pA (p0:Option Addr) (p1:Option Addr) (p2:Option Addr) (y0:Int) (y1:Int) (y2:Int) (K:AP) (h:AH):Prop:=
(onSome p0 fun a1=>
(aC a1 (.int .i64 (0:Int)) h fun h2=>
(aC (Addr.add a1 1) (.bool false) h2 fun h3=>
(aC (Addr.add a1 2) (.bool false) h3 fun h4=>
(aC (Addr.add a1 3) (.bool false) h4 fun h5=>
(aC (Addr.add a1 4) (.bool false) h5 fun h6=>
(aC (Addr.add a1 5) (.bool false) h6 fun h7=>
(aC (Addr.add a1 6) (.bool false) h7 fun h8=>
(onSome p1 fun a9=>
(aC a9 (.int .u64 y0) h8 fun h10=>
(aC (Addr.add a9 1) (.int .i64 y1) h10 fun h11=>
(onSome p2 fun a12=>
(aC a12 (.int .i64 y2) h11 fun h13=>
(K h13))))))))))))))
abbrev qdx_Tv:=Option Addr→Option Addr→Option Addr→Value→AP→AP
def qdx_vA (f_p:qdx_Tp):qdx_Tv:=fun p0 p1 p2 v K h=>dpS [.c .p,.c .p,.c .p] 317 [(.i .u64),(.i .i64),(.i .i64)] f_p [(.pointer p0),(.pointer p1),(.pointer p2)] v K h
abbrev qdy_T:=Option Addr→Int→Int→Bool→Bool→Bool→(Int→Bool→Bool→Bool→Bool→Bool→Bool→Int→Int→Int→AH→Prop)→AP
def qdy_G (f_qds:qds_T) (f_qbc:qbc_T) (f_qdi:qdi_T) (f_qdv:qdv_T) (f_qdl:qdl_T) (f_qdg:qdg_T) (f_qdt:qdt_T) (f_qdw:qdw_T) (f_qdx_n:qdx_Tn) (f_qdx_v:qdx_Tv) (p0:Option Addr) (p1:Int) (p2:Int) (p3:Bool) (p4:Bool) (p5:Bool) (Q:Int→Bool→Bool→Bool→Bool→Bool→Bool→Int→Int→Int→AH→Prop) (h:AH):Prop:=
(newA h (.cells #[(.int .i64 (0:Int)),(.bool false),(.bool false),(.bool false),(.bool false),(.bool false),(.bool false)] 273) fun b1 h2=>
(newA h2 (.cells #[(.int .u64 (0:Int)),(.int .i64 (0:Int))] 39) fun b3 h4=>
(newA h4 (.cells #[(.int .i64 (0:Int))] 26) fun b5 h6=>
(f_qds p2 (fun b7 h8=>
(bsel (!b7)
(aC (Addr.mk b1 0 none) (.int .i64 (0:Int)) h8 fun h9=>
(aC (Addr.add (Addr.mk b1 0 none) 1) (.bool false) h9 fun h10=>
(aC (Addr.add (Addr.mk b1 0 none) 2) (.bool false) h10 fun h11=>
(aC (Addr.add (Addr.mk b1 0 none) 3) (.bool false) h11 fun h12=>
(aC (Addr.add (Addr.mk b1 0 none) 4) (.bool false) h12 fun h13=>
(aC (Addr.add (Addr.mk b1 0 none) 5) (.bool false) h13 fun h14=>
(aC (Addr.add (Addr.mk b1 0 none) 6) (.bool false) h14 fun h15=>
(aC (Addr.mk b3 0 none) (.int .u64 (0:Int)) h15 fun h16=>
(aC (Addr.add (Addr.mk b3 0 none) 1) (.int .i64 (0:Int)) h16 fun h17=>
(aC (Addr.mk b5 0 none) (.int .i64 (1:Int)) h17 fun h18=>
(f_qdx_n (some (Addr.mk b1 0 none)) (some (Addr.mk b3 0 none)) (some (Addr.mk b5 0 none)) (fun h19=>
(aI .i64 (Addr.mk b1 0 none) h19 fun n20=>
(aB (Addr.add (Addr.mk b1 0 none) 1) h19 fun b21=>
(aB (Addr.add (Addr.mk b1 0 none) 2) h19 fun b22=>
(aB (Addr.add (Addr.mk b1 0 none) 3) h19 fun b23=>
(aB (Addr.add (Addr.mk b1 0 none) 4) h19 fun b24=>
(aB (Addr.add (Addr.mk b1 0 none) 5) h19 fun b25=>
(aB (Addr.add (Addr.mk b1 0 none) 6) h19 fun b26=>
(aI .u64 (Addr.mk b3 0 none) h19 fun n27=>
(aI .i64 (Addr.add (Addr.mk b3 0 none) 1) h19 fun n28=>
(aI .i64 (Addr.mk b5 0 none) h19 fun n29=>
(Q n20 b21 b22 b23 b24 b25 b26 n27 n28 n29 h19)))))))))))) h18)))))))))))
(f_qbc p0 p1 (fun b30 h31=>
(bsel (!b30)
(aC (Addr.mk b1 0 none) (.int .i64 (0:Int)) h31 fun h32=>
(aC (Addr.add (Addr.mk b1 0 none) 1) (.bool false) h32 fun h33=>
(aC (Addr.add (Addr.mk b1 0 none) 2) (.bool false) h33 fun h34=>
(aC (Addr.add (Addr.mk b1 0 none) 3) (.bool false) h34 fun h35=>
(aC (Addr.add (Addr.mk b1 0 none) 4) (.bool false) h35 fun h36=>
(aC (Addr.add (Addr.mk b1 0 none) 5) (.bool false) h36 fun h37=>
(aC (Addr.add (Addr.mk b1 0 none) 6) (.bool false) h37 fun h38=>
(aC (Addr.mk b3 0 none) (.int .u64 (0:Int)) h38 fun h39=>
(aC (Addr.add (Addr.mk b3 0 none) 1) (.int .i64 (0:Int)) h39 fun h40=>
(aC (Addr.mk b5 0 none) (.int .i64 (2:Int)) h40 fun h41=>
(f_qdx_n (some (Addr.mk b1 0 none)) (some (Addr.mk b3 0 none)) (some (Addr.mk b5 0 none)) (fun h42=>
(aI .i64 (Addr.mk b1 0 none) h42 fun n43=>
(aB (Addr.add (Addr.mk b1 0 none) 1) h42 fun b44=>
(aB (Addr.add (Addr.mk b1 0 none) 2) h42 fun b45=>
(aB (Addr.add (Addr.mk b1 0 none) 3) h42 fun b46=>
(aB (Addr.add (Addr.mk b1 0 none) 4) h42 fun b47=>
(aB (Addr.add (Addr.mk b1 0 none) 5) h42 fun b48=>
(aB (Addr.add (Addr.mk b1 0 none) 6) h42 fun b49=>
(aI .u64 (Addr.mk b3 0 none) h42 fun n50=>
(aI .i64 (Addr.add (Addr.mk b3 0 none) 1) h42 fun n51=>
(aI .i64 (Addr.mk b5 0 none) h42 fun n52=>
(Q n43 b44 b45 b46 b47 b48 b49 n50 n51 n52 h42)))))))))))) h41)))))))))))
(newA h31 (.cells #[(.pointer p0),(.int .u64 p2),(.bool p3),(.bool p4),(.bool p5),(.bool true),(.bool true),(.bool true)] 321) fun b53 h54=>
(f_qdi p2 (fun n55 n56 n57 n58 _ h60=>
(newA h60 (.cells #[(.int .i64 (0:Int)),(.int .i64 (0:Int)),(.int .i64 (0:Int)),(.int .i64 (0:Int))] 195) fun b61 h62=>
(aC (Addr.mk b61 0 none) (.int .i64 n55) h62 fun h63=>
(aC (Addr.add (Addr.mk b61 0 none) 1) (.int .i64 n56) h63 fun h64=>
(aC (Addr.add (Addr.mk b61 0 none) 2) (.int .i64 n57) h64 fun h65=>
(aC (Addr.add (Addr.mk b61 0 none) 3) (.int .i64 n58) h65 fun h66=>
(∃ R67:Sl→AH→Prop,(∀ s154:Sl,∀ h155,R67 s154 h155→
(f_qdw p0 s154 p3 (fun h156=>
(aI .i64 (Addr.mk b1 0 none) h156 fun n157=>
(aB (Addr.add (Addr.mk b1 0 none) 1) h156 fun b158=>
(aB (Addr.add (Addr.mk b1 0 none) 2) h156 fun b159=>
(aB (Addr.add (Addr.mk b1 0 none) 3) h156 fun b160=>
(aB (Addr.add (Addr.mk b1 0 none) 4) h156 fun b161=>
(aB (Addr.add (Addr.mk b1 0 none) 5) h156 fun b162=>
(aB (Addr.add (Addr.mk b1 0 none) 6) h156 fun b163=>
(aC (Addr.mk b1 0 none) (.int .i64 n157) h156 fun h164=>
(aC (Addr.add (Addr.mk b1 0 none) 1) (.bool b158) h164 fun h165=>
(aC (Addr.add (Addr.mk b1 0 none) 2) (.bool b159) h165 fun h166=>
(aC (Addr.add (Addr.mk b1 0 none) 3) (.bool b160) h166 fun h167=>
(aC (Addr.add (Addr.mk b1 0 none) 4) (.bool b161) h167 fun h168=>
(aC (Addr.add (Addr.mk b1 0 none) 5) (.bool b162) h168 fun h169=>
(aC (Addr.add (Addr.mk b1 0 none) 6) (.bool b163) h169 fun h170=>
(aC (Addr.mk b3 0 none) (.int .u64 (0:Int)) h170 fun h171=>
(aC (Addr.add (Addr.mk b3 0 none) 1) (.int .i64 (0:Int)) h171 fun h172=>
(aC (Addr.mk b5 0 none) (.int .i64 (0:Int)) h172 fun h173=>
(f_qdx_n (some (Addr.mk b1 0 none)) (some (Addr.mk b3 0 none)) (some (Addr.mk b5 0 none)) (fun h174=>
(aI .i64 (Addr.mk b1 0 none) h174 fun n175=>
(aB (Addr.add (Addr.mk b1 0 none) 1) h174 fun b176=>
(aB (Addr.add (Addr.mk b1 0 none) 2) h174 fun b177=>
(aB (Addr.add (Addr.mk b1 0 none) 3) h174 fun b178=>
(aB (Addr.add (Addr.mk b1 0 none) 4) h174 fun b179=>
(aB (Addr.add (Addr.mk b1 0 none) 5) h174 fun b180=>
(aB (Addr.add (Addr.mk b1 0 none) 6) h174 fun b181=>
(aI .u64 (Addr.mk b3 0 none) h174 fun n182=>
(aI .i64 (Addr.add (Addr.mk b3 0 none) 1) h174 fun n183=>
(aI .i64 (Addr.mk b5 0 none) h174 fun n184=>
(Q n175 b176 b177 b178 b179 b180 b181 n182 n183 n184 h174)))))))))))) h173))))))))))))))))))) h155))∧
(∃ I68:Sl→Int→Int→Nat→AH→Prop,(∃ m69,I68 Sl.nil p1 (4:Int) m69 h66)∧∀ s72:Sl,∀ x73:Int,∀ x74:Int,∀ m69 h71,I68 s72 x73 x74 m69 h71→
(bsel (decide (x74≥(1:Int)))
(inB (IntKind.wrap .i64 ((4:Int)-x74)) 4
(aI .i64 (Addr.add (Addr.mk b61 0 none) (Int.toNat (IntKind.wrap .i64 ((4:Int)-x74))*1)) h71 fun n75=>
(f_qdv (some (Addr.mk b53 0 none)) x73 n75 x74 (fun n76 n77 h78=>
(newA h78 (.cells #[(.int .u64 n77)] 22) fun b92 h93=>
(apA 1 8 #[(.int .u64 (0:Int))] 22 s72 (Sl.mk (some (Addr.mk b92 0 none)) 1 1) h93 fun s94 h95=>
(f_qdl n76 (fun _ _ _ _ b100 b101 b102 _ n104 h105=>
(∃ R106:AH→Prop,(∀ h107,R106 h107→
(∃ R108:AH→Prop,(∀ h128,R108 h128→
(aB (Addr.add (Addr.mk b53 0 none) 5) h128 fun b129=>
(aB (Addr.add (Addr.add (Addr.mk b53 0 none) 5) 1) h128 fun b130=>
(aB (Addr.add (Addr.add (Addr.mk b53 0 none) 5) 2) h128 fun b131=>
(bsel b100
(aC (Addr.mk b1 0 none) (.int .i64 n104) h128 fun h132=>
(aC (Addr.add (Addr.mk b1 0 none) 1) (.bool b129) h132 fun h133=>
(aC (Addr.add (Addr.mk b1 0 none) 2) (.bool b130) h133 fun h134=>
(aC (Addr.add (Addr.mk b1 0 none) 3) (.bool b131) h134 fun h135=>
(aC (Addr.add (Addr.mk b1 0 none) 4) (.bool b102) h135 fun h136=>
(aC (Addr.add (Addr.mk b1 0 none) 5) (.bool (x74==(2:Int))) h136 fun h137=>
(aC (Addr.add (Addr.mk b1 0 none) 6) (.bool true) h137 fun h138=>
(aB (Addr.add (Addr.mk b1 0 none) 5) h138 fun b139=>
(bsel b139
(aI .i64 (Addr.mk b1 0 none) h138 fun n140=>
(aI .i64 (Addr.add (Addr.mk b61 0 none) 3) h138 fun n141=>
(aC (Addr.mk b1 0 none) (.int .i64 (IntKind.wrap .i64 (n140+n141))) h138 fun h142=>
(R67 s94 h142))))
(R67 s94 h138))))))))))
(aC (Addr.mk b1 0 none) (.int .i64 n104) h128 fun h143=>
(aC (Addr.add (Addr.mk b1 0 none) 1) (.bool b129) h143 fun h144=>
(aC (Addr.add (Addr.mk b1 0 none) 2) (.bool b130) h144 fun h145=>
(aC (Addr.add (Addr.mk b1 0 none) 3) (.bool b131) h145 fun h146=>
(aC (Addr.add (Addr.mk b1 0 none) 4) (.bool b102) h146 fun h147=>
(aC (Addr.add (Addr.mk b1 0 none) 5) (.bool (x74==(2:Int))) h147 fun h148=>
(aC (Addr.add (Addr.mk b1 0 none) 6) (.bool p3) h148 fun h149=>
(aB (Addr.add (Addr.mk b1 0 none) 5) h149 fun b150=>
(bsel b150
(aI .i64 (Addr.mk b1 0 none) h149 fun n151=>
(aI .i64 (Addr.add (Addr.mk b61 0 none) 3) h149 fun n152=>
(aC (Addr.mk b1 0 none) (.int .i64 (IntKind.wrap .i64 (n151+n152))) h149 fun h153=>
(R67 s94 h153))))
(R67 s94 h149)))))))))))))))∧
(aB (Addr.add (Addr.mk b53 0 none) 5) h107 fun b109=>
(aB (Addr.add (Addr.add (Addr.mk b53 0 none) 5) 1) h107 fun b110=>
(aB (Addr.add (Addr.add (Addr.mk b53 0 none) 5) 2) h107 fun b111=>
(f_qdg b109 b110 b111 p3 p4 p5 (fun b112 h113=>
(bsel (!b112)
(f_qdt (some (Addr.mk b53 0 none)) (1:Int) (fun h114=>
(R108 h114)) (fun v115 h116=>(f_qdx_v (some (Addr.mk b1 0 none)) (some (Addr.mk b3 0 none)) (some (Addr.mk b5 0 none)) v115 (fun h117=>
(aI .i64 (Addr.mk b1 0 none) h117 fun n118=>
(aB (Addr.add (Addr.mk b1 0 none) 1) h117 fun b119=>
(aB (Addr.add (Addr.mk b1 0 none) 2) h117 fun b120=>
(aB (Addr.add (Addr.mk b1 0 none) 3) h117 fun b121=>
(aB (Addr.add (Addr.mk b1 0 none) 4) h117 fun b122=>
(aB (Addr.add (Addr.mk b1 0 none) 5) h117 fun b123=>
(aB (Addr.add (Addr.mk b1 0 none) 6) h117 fun b124=>
(aI .u64 (Addr.mk b3 0 none) h117 fun n125=>
(aI .i64 (Addr.add (Addr.mk b3 0 none) 1) h117 fun n126=>
(aI .i64 (Addr.mk b5 0 none) h117 fun n127=>
(Q n118 b119 b120 b121 b122 b123 b124 n125 n126 n127 h117)))))))))))) h116)) h113)
(R108 h113))) h107))))))∧
(bsel (decide (x74 > (1:Int)))
(bsel (x74==(2:Int))
(bsel (!b101)
(∃ m70,m70<m69∧I68 s94 n104 (IntKind.wrap .i64 (x74-(1:Int))) m70 h105)
(R106 h105))
(∃ m70,m70<m69∧I68 s94 n104 (IntKind.wrap .i64 (x74-(1:Int))) m70 h105))
(R106 h105)))) h95)))) (fun v79 h80=>(f_qdx_v (some (Addr.mk b1 0 none)) (some (Addr.mk b3 0 none)) (some (Addr.mk b5 0 none)) v79 (fun h81=>
(aI .i64 (Addr.mk b1 0 none) h81 fun n82=>
(aB (Addr.add (Addr.mk b1 0 none) 1) h81 fun b83=>
(aB (Addr.add (Addr.mk b1 0 none) 2) h81 fun b84=>
(aB (Addr.add (Addr.mk b1 0 none) 3) h81 fun b85=>
(aB (Addr.add (Addr.mk b1 0 none) 4) h81 fun b86=>
(aB (Addr.add (Addr.mk b1 0 none) 5) h81 fun b87=>
(aB (Addr.add (Addr.mk b1 0 none) 6) h81 fun b88=>
(aI .u64 (Addr.mk b3 0 none) h81 fun n89=>
(aI .i64 (Addr.add (Addr.mk b3 0 none) 1) h81 fun n90=>
(aI .i64 (Addr.mk b5 0 none) h81 fun n91=>
(Q n82 b83 b84 b85 b86 b87 b88 n89 n90 n91 h81)))))))))))) h80)) h71)))
(R67 s72 h71)))))))))) h54)))) h8))) h6))))
def qdy_A:qdy_T:=qdy_G qds_A qbc_A qdi_A qdv_A qdl_A qdg_A qdt_A qdw_A qdx_nA (qdx_vA qdx_pA)
def qdy_W (f:qdy_T):ArS [.c .p,.c (.i .i64),.c (.i .u64),.agg [.b,.b,.b]] EnR:=fun p0 p1 p2 p3 p4 p5 K _Kp=>f p0 p1 p2 p3 p4 p5 (fun r0 r1 r2 r3 r4 r5 r6 r7 r8 r9=>K (.tuple #[(.agg #[(.int .i64 r0),(.bool r1),(.bool r2),(.bool r3),(.bool r4),(.bool r5),(.bool r6)]),(.agg #[(.int .u64 r7),(.int .i64 r8)]),(.int .i64 r9)]))
abbrev qdz_T:=Option Addr→Int→Bool→Int→Int→Int→Bool→Bool→Bool→Bool→Bool→(Int→AH→Prop)→AP
def qdz_G (f_qdb:qdb_T) (f_qdc:qdc_T) (p0:Option Addr) (p1:Int) (p2:Bool) (p3:Int) (p4:Int) (p5:Int) (p6:Bool) (p7:Bool) (p8:Bool) (p9:Bool) (p10:Bool) (Q:Int→AH→Prop) (h:AH):Prop:=
(∃ R1:AH→Prop,(∀ h2,R1 h2→
(onSome p0 fun a3=>
(f_qdb p4 (fun n4 h5=>
(inB n4 8
(∃ I6:Int→Nat→AH→Prop,(∃ m7,I6 (0:Int) m7 h5)∧∀ x10:Int,∀ m7 h9,I6 x10 m7 h9→
(bsel (decide (x10<(2:Int)))
(∃ R11:AH→Prop,(∀ h43,R11 h43→
(∃ m8,m8<m7∧I6 (IntKind.wrap .i64 (x10+(1:Int))) m8 h43))∧
(inB x10 2
(aB (Addr.add (Addr.add a3 (Int.toNat n4*18)) (Int.toNat x10*9)) h9 fun b12=>
(aI .i64 (Addr.add (Addr.add (Addr.add a3 (Int.toNat n4*18)) (Int.toNat x10*9)) 1) h9 fun n13=>
(aI .i64 (Addr.add (Addr.add (Addr.add a3 (Int.toNat n4*18)) (Int.toNat x10*9)) 2) h9 fun n14=>
(aI .i64 (Addr.add (Addr.add (Addr.add a3 (Int.toNat n4*18)) (Int.toNat x10*9)) 3) h9 fun n15=>
(aB (Addr.add (Addr.add (Addr.add a3 (Int.toNat n4*18)) (Int.toNat x10*9)) 4) h9 fun b16=>
(aB (Addr.add (Addr.add (Addr.add a3 (Int.toNat n4*18)) (Int.toNat x10*9)) 5) h9 fun b17=>
(aB (Addr.add (Addr.add (Addr.add a3 (Int.toNat n4*18)) (Int.toNat x10*9)) 6) h9 fun b18=>
(aB (Addr.add (Addr.add (Addr.add a3 (Int.toNat n4*18)) (Int.toNat x10*9)) 7) h9 fun b19=>
(aB (Addr.add (Addr.add (Addr.add a3 (Int.toNat n4*18)) (Int.toNat x10*9)) 8) h9 fun b20=>
(f_qdc b12 n13 n14 n15 b16 b17 b18 b19 b20 p3 p4 (fun b21 h22=>
(bsel b21
(inB x10 2
(aC (Addr.add (Addr.add a3 (Int.toNat n4*18)) (Int.toNat x10*9)) (.bool false) h22 fun h23=>
(aC (Addr.add (Addr.add (Addr.add a3 (Int.toNat n4*18)) (Int.toNat x10*9)) 1) (.int .i64 (0:Int)) h23 fun h24=>
(aC (Addr.add (Addr.add (Addr.add a3 (Int.toNat n4*18)) (Int.toNat x10*9)) 2) (.int .i64 (0:Int)) h24 fun h25=>
(aC (Addr.add (Addr.add (Addr.add a3 (Int.toNat n4*18)) (Int.toNat x10*9)) 3) (.int .i64 (0:Int)) h25 fun h26=>
(aC (Addr.add (Addr.add (Addr.add a3 (Int.toNat n4*18)) (Int.toNat x10*9)) 4) (.bool false) h26 fun h27=>
(aC (Addr.add (Addr.add (Addr.add a3 (Int.toNat n4*18)) (Int.toNat x10*9)) 5) (.bool false) h27 fun h28=>
(aC (Addr.add (Addr.add (Addr.add a3 (Int.toNat n4*18)) (Int.toNat x10*9)) 6) (.bool false) h28 fun h29=>
(aC (Addr.add (Addr.add (Addr.add a3 (Int.toNat n4*18)) (Int.toNat x10*9)) 7) (.bool false) h29 fun h30=>
(aC (Addr.add (Addr.add (Addr.add a3 (Int.toNat n4*18)) (Int.toNat x10*9)) 8) (.bool false) h30 fun h31=>
(R11 h31)))))))))))
(bsel p9
(inB x10 2
(aB (Addr.add (Addr.add a3 (Int.toNat n4*18)) (Int.toNat x10*9)) h22 fun b32=>
(bsel b32
(inB x10 2
(aI .i64 (Addr.add (Addr.add (Addr.add a3 (Int.toNat n4*18)) (Int.toNat x10*9)) 2) h22 fun n33=>
(bsel (n33==p4)
(inB x10 2
(aC (Addr.add (Addr.add a3 (Int.toNat n4*18)) (Int.toNat x10*9)) (.bool false) h22 fun h34=>
(aC (Addr.add (Addr.add (Addr.add a3 (Int.toNat n4*18)) (Int.toNat x10*9)) 1) (.int .i64 (0:Int)) h34 fun h35=>
(aC (Addr.add (Addr.add (Addr.add a3 (Int.toNat n4*18)) (Int.toNat x10*9)) 2) (.int .i64 (0:Int)) h35 fun h36=>
(aC (Addr.add (Addr.add (Addr.add a3 (Int.toNat n4*18)) (Int.toNat x10*9)) 3) (.int .i64 (0:Int)) h36 fun h37=>
(aC (Addr.add (Addr.add (Addr.add a3 (Int.toNat n4*18)) (Int.toNat x10*9)) 4) (.bool false) h37 fun h38=>
(aC (Addr.add (Addr.add (Addr.add a3 (Int.toNat n4*18)) (Int.toNat x10*9)) 5) (.bool false) h38 fun h39=>
(aC (Addr.add (Addr.add (Addr.add a3 (Int.toNat n4*18)) (Int.toNat x10*9)) 6) (.bool false) h39 fun h40=>
(aC (Addr.add (Addr.add (Addr.add a3 (Int.toNat n4*18)) (Int.toNat x10*9)) 7) (.bool false) h40 fun h41=>
(aC (Addr.add (Addr.add (Addr.add a3 (Int.toNat n4*18)) (Int.toNat x10*9)) 8) (.bool false) h41 fun h42=>
(R11 h42)))))))))))
(R11 h22))))
(R11 h22))))
(R11 h22)))) h9))))))))))))
(inB p1 2
(aC (Addr.add (Addr.add a3 (Int.toNat n4*18)) (Int.toNat p1*9)) (.bool p2) h9 fun h44=>
(aC (Addr.add (Addr.add (Addr.add a3 (Int.toNat n4*18)) (Int.toNat p1*9)) 1) (.int .i64 p3) h44 fun h45=>
(aC (Addr.add (Addr.add (Addr.add a3 (Int.toNat n4*18)) (Int.toNat p1*9)) 2) (.int .i64 p4) h45 fun h46=>
(aC (Addr.add (Addr.add (Addr.add a3 (Int.toNat n4*18)) (Int.toNat p1*9)) 3) (.int .i64 p5) h46 fun h47=>
(aC (Addr.add (Addr.add (Addr.add a3 (Int.toNat n4*18)) (Int.toNat p1*9)) 4) (.bool p6) h47 fun h48=>
(aC (Addr.add (Addr.add (Addr.add a3 (Int.toNat n4*18)) (Int.toNat p1*9)) 5) (.bool p7) h48 fun h49=>
(aC (Addr.add (Addr.add (Addr.add a3 (Int.toNat n4*18)) (Int.toNat p1*9)) 6) (.bool p8) h49 fun h50=>
(aC (Addr.add (Addr.add (Addr.add a3 (Int.toNat n4*18)) (Int.toNat p1*9)) 7) (.bool p9) h50 fun h51=>
(aC (Addr.add (Addr.add (Addr.add a3 (Int.toNat n4*18)) (Int.toNat p1*9)) 8) (.bool p10) h51 fun h52=>
(Q (0:Int) h52))))))))))))))) h2)))∧
(bsel (decide (p1<(0:Int)))
(Q (1:Int) h)
(bsel (decide (p1≥(2:Int)))
(Q (1:Int) h)
(bsel (decide (p3<(0:Int)))
(Q (1:Int) h)
(bsel (decide (p3≥(4096:Int)))
(Q (1:Int) h)
(bsel (decide (p4<(0:Int)))
(Q (1:Int) h)
(bsel (decide (p5<(0:Int)))
(Q (1:Int) h)
(bsel (!p2)
(Q (1:Int) h)
(R1 h)))))))))
def qdz_A:qdz_T:=qdz_G qdb_A qdc_A
def qdz_W (f:qdz_T):ArS [.c .p,.c (.i .i64),.agg [.b,(.i .i64),(.i .i64),(.i .i64),.b,.b,.b,.b,.b]] EnR:=fun p0 p1 p2 p3 p4 p5 p6 p7 p8 p9 p10 K _Kp=>f p0 p1 p2 p3 p4 p5 p6 p7 p8 p9 p10 (fun r0=>K (.int .i64 r0))
abbrev qea_T:=Option Addr→Int→Int→Bool→Bool→Bool→(Int→AH→Prop)→(Value→AP)→AP
def qea_G (f_qcu:qcu_T) (f_qcv:qcv_T) (f_qcs:qcs_T) (f_qda:qda_T) (f_qdf:qdf_T) (f_qdg:qdg_T) (f_qdr:qdr_T) (f_qdy:qdy_T) (f_qdz:qdz_T) (p0:Option Addr) (p1:Int) (p2:Int) (p3:Bool) (p4:Bool) (p5:Bool) (Q:Int→AH→Prop) (Kp:Value→AP) (h:AH):Prop:=
(f_qcu p0 (fun n1 h2=>
(onSome p0 fun a3=>
(aP a3 h2 fun pt4=>
(f_qcv pt4 p1 (fun n5 b6 h7=>
(∃ R8:AH→Prop,(∀ h12,R8 h12→
(onSome p0 fun a13=>
(aP a13 h12 fun pt14=>
(f_qda pt14 p1 (fun n15 h16=>
(∃ R17:AH→Prop,(∀ h35,R17 h35→
(onSome p0 fun a36=>
(aP a36 h35 fun pt37=>
(f_qdr pt37 p1 (IntKind.wrap .i64 (IntKind.wrap .u64 (Int.tdiv p2 (4096:Int)))) p3 p4 p5 (fun _ n39 n40 h41=>
(∃ R42:Int→Int→AH→Prop,(∀ c43:Int,∀ c44:Int,∀ h45,R42 c43 c44 h45→
(f_qcs n40 c43 c44 (fun h46=>
(onSome p0 fun a49=>
(aP a49 h46 fun pt50=>
(onSome pt50 fun a51=>
(aP a51 h46 fun pt52=>
(f_qdy pt52 n5 p2 p3 p4 p5 (fun n53 b54 b55 b56 _ _ b59 n60 n61 n62 h63=>
(f_qcs n62 n60 n61 (fun h64=>
(∃ R67:AH→Prop,(∀ h74,R67 h74→
(Q n53 h74))∧
(bsel (decide (n1≥(0:Int)))
(onSome p0 fun a68=>
(aP a68 h64 fun pt69=>
(onSome pt69 fun a70=>
(aP (Addr.add a70 3) h64 fun pt71=>
(f_qdz pt71 n1 true n15 (IntKind.wrap .i64 (IntKind.wrap .u64 (Int.tdiv p2 (4096:Int)))) n53 b54 b55 b56 false b59 (fun _ h73=>
(R67 h73)) h64)))))
(R67 h64)))) (fun v65 h66=>(Kp v65 h66)) h63)) h46)))))) (fun v47 h48=>(Kp v47 h48)) h45))∧
(bsel (n40==(9:Int))
(R42 p2 n39 h41)
(R42 (0:Int) (0:Int) h41)))) h35))))∧
(onSome p0 fun a18=>
(aP a18 h16 fun pt19=>
(onSome pt19 fun a20=>
(aP (Addr.add a20 3) h16 fun pt21=>
(f_qdf pt21 n15 (IntKind.wrap .i64 (IntKind.wrap .u64 (Int.tdiv p2 (4096:Int)))) (fun _ _ _ n25 b26 b27 b28 _ b30 b31 h32=>
(bsel b31
(f_qdg b26 b27 b28 p3 p4 p5 (fun b33 h34=>
(bsel b33
(bsel b30
(Q n25 h34)
(bsel (!p3)
(Q n25 h34)
(R17 h34)))
(R17 h34))) h32)
(R17 h32))) h16))))))) h12))))∧
(bsel (!b6)
(f_qcs (5:Int) (0:Int) (0:Int) (fun h9=>
(R8 h9)) (fun v10 h11=>(Kp v10 h11)) h7)
(R8 h7)))) h2)))) h)
def qea_A:qea_T:=qea_G qcu_A qcv_A qcs_A qda_A qdf_A qdg_A qdr_A qdy_A qdz_A
def qea_W (f:qea_T):ArS [.c .p,.c (.i .i64),.c (.i .u64),.agg [.b,.b,.b]] EnR:=fun p0 p1 p2 p3 p4 p5 K Kp=>f p0 p1 p2 p3 p4 p5 (fun r0=>K (.int .i64 r0)) Kp
abbrev qeb_Tn:=Option Addr→Option Addr→Option Addr→AP→AP
def qeb_nA (_p0:Option Addr) (_p1:Option Addr) (_p2:Option Addr) (K:AP) (h:AH):Prop:=
(K h)
abbrev qeb_Tp:=Option Addr→Option Addr→Option Addr→Int→Int→Int→AP→AP
def qeb_pA (p0:Option Addr) (p1:Option Addr) (p2:Option Addr) (y0:Int) (y1:Int) (y2:Int) (K:AP) (h:AH):Prop:=
(onSome p0 fun a1=>
(aC a1 (.int .u64 (0:Int)) h fun h2=>
(onSome p1 fun a3=>
(aC a3 (.int .u64 y0) h2 fun h4=>
(aC (Addr.add a3 1) (.int .i64 y1) h4 fun h5=>
(onSome p2 fun a6=>
(aC a6 (.int .i64 y2) h5 fun h7=>
(K h7))))))))
abbrev qeb_Tv:=Option Addr→Option Addr→Option Addr→Value→AP→AP
def qeb_vA (f_p:qeb_Tp):qeb_Tv:=fun p0 p1 p2 v K h=>dpS [.c .p,.c .p,.c .p] 226 [(.i .u64),(.i .i64),(.i .i64)] f_p [(.pointer p0),(.pointer p1),(.pointer p2)] v K h
abbrev qec_T:=Option Addr→Int→Int→Int→Bool→Int→(Int→Int→Int→Int→AH→Prop)→AP
def qec_G (f_qcs:qcs_T) (f_qea:qea_T) (f_qbp:qbp_T) (f_qdk:qdk_T) (f_qeb_n:qeb_Tn) (f_qeb_v:qeb_Tv) (p0:Option Addr) (p1:Int) (p2:Int) (p3:Int) (p4:Bool) (p5:Int) (Q:Int→Int→Int→Int→AH→Prop) (h:AH):Prop:=
(newA h (.cells #[(.int .u64 (0:Int))] 22) fun b1 h2=>
(newA h2 (.cells #[(.int .u64 (0:Int)),(.int .i64 (0:Int))] 39) fun b3 h4=>
(newA h4 (.cells #[(.int .i64 (0:Int))] 26) fun b5 h6=>
(∃ R7:AH→Prop,(∀ h19,R7 h19→
(∃ R20:AH→Prop,(∀ h37,R20 h37→
(f_qea p0 p1 p2 p4 true false (fun n38 h39=>
(bsel p4
(onSome p0 fun a47=>
(aP a47 h39 fun pt48=>
(onSome pt48 fun a49=>
(aP a49 h39 fun pt50=>
(f_qbp pt50 (IntKind.wrap .u64 ((IntKind.wrap .u64 ((IntKind.wrap .u64 n38)*(4096:Int)))+(Int.tmod p2 (4096:Int)))) p3 p5 (fun n51 h52=>
(f_qcs n51 (0:Int) (0:Int) (fun h53=>
(aC (Addr.mk b1 0 none) (.int .u64 (0:Int)) h53 fun h61=>
(aC (Addr.mk b3 0 none) (.int .u64 (0:Int)) h61 fun h62=>
(aC (Addr.add (Addr.mk b3 0 none) 1) (.int .i64 (0:Int)) h62 fun h63=>
(aC (Addr.mk b5 0 none) (.int .i64 (0:Int)) h63 fun h64=>
(f_qeb_n (some (Addr.mk b1 0 none)) (some (Addr.mk b3 0 none)) (some (Addr.mk b5 0 none)) (fun h65=>
(aI .u64 (Addr.mk b1 0 none) h65 fun n66=>
(aI .u64 (Addr.mk b3 0 none) h65 fun n67=>
(aI .i64 (Addr.add (Addr.mk b3 0 none) 1) h65 fun n68=>
(aI .i64 (Addr.mk b5 0 none) h65 fun n69=>
(Q n66 n67 n68 n69 h65)))))) h64)))))) (fun v54 h55=>(f_qeb_v (some (Addr.mk b1 0 none)) (some (Addr.mk b3 0 none)) (some (Addr.mk b5 0 none)) v54 (fun h56=>
(aI .u64 (Addr.mk b1 0 none) h56 fun n57=>
(aI .u64 (Addr.mk b3 0 none) h56 fun n58=>
(aI .i64 (Addr.add (Addr.mk b3 0 none) 1) h56 fun n59=>
(aI .i64 (Addr.mk b5 0 none) h56 fun n60=>
(Q n57 n58 n59 n60 h56)))))) h55)) h52)) h39)))))
(onSome p0 fun a70=>
(aP a70 h39 fun pt71=>
(onSome pt71 fun a72=>
(aP a72 h39 fun pt73=>
(f_qdk pt73 (IntKind.wrap .u64 ((IntKind.wrap .u64 ((IntKind.wrap .u64 n38)*(4096:Int)))+(Int.tmod p2 (4096:Int)))) p3 (fun n74 n75 h76=>
(aC (Addr.mk b1 0 none) (.int .u64 n74) h76 fun h77=>
(aC (Addr.mk b5 0 none) (.int .i64 n75) h77 fun h78=>
(aI .u64 (Addr.mk b1 0 none) h78 fun n79=>
(aI .i64 (Addr.mk b5 0 none) h78 fun n80=>
(aC (Addr.mk b1 0 none) (.int .u64 n79) h78 fun h81=>
((aI .i64 (Addr.mk b5 0 none) h81 fun n82=>
(((.int .i64 n82):Value)=(.int .i64 n80)))∧
(aC (Addr.mk b3 0 none) (.int .u64 (0:Int)) h81 fun h83=>
(aC (Addr.add (Addr.mk b3 0 none) 1) (.int .i64 (0:Int)) h83 fun h84=>
((aI .i64 (Addr.mk b5 0 none) h84 fun n85=>
(((.int .i64 n85):Value)=(.int .i64 n80)))∧
(aC (Addr.mk b5 0 none) (.int .i64 n80) h84 fun h86=>
(f_qeb_n (some (Addr.mk b1 0 none)) (some (Addr.mk b3 0 none)) (some (Addr.mk b5 0 none)) (fun h87=>
(aI .u64 (Addr.mk b1 0 none) h87 fun n88=>
(aI .u64 (Addr.mk b3 0 none) h87 fun n89=>
(aI .i64 (Addr.add (Addr.mk b3 0 none) 1) h87 fun n90=>
(aI .i64 (Addr.mk b5 0 none) h87 fun n91=>
(Q n88 n89 n90 n91 h87)))))) h86)))))))))))) h39))))))) (fun v40 h41=>(f_qeb_v (some (Addr.mk b1 0 none)) (some (Addr.mk b3 0 none)) (some (Addr.mk b5 0 none)) v40 (fun h42=>
(aI .u64 (Addr.mk b1 0 none) h42 fun n43=>
(aI .u64 (Addr.mk b3 0 none) h42 fun n44=>
(aI .i64 (Addr.add (Addr.mk b3 0 none) 1) h42 fun n45=>
(aI .i64 (Addr.mk b5 0 none) h42 fun n46=>
(Q n43 n44 n45 n46 h42)))))) h41)) h37))∧
(bsel ((IntKind.wrap .u64 p3)==0) False
(bsel ((Int.tmod p2 (IntKind.wrap .u64 p3)) != (0:Int))
(f_qcs (1:Int) (0:Int) (0:Int) (fun h21=>
(R20 h21)) (fun v22 h23=>(f_qeb_v (some (Addr.mk b1 0 none)) (some (Addr.mk b3 0 none)) (some (Addr.mk b5 0 none)) v22 (fun h24=>
(aI .u64 (Addr.mk b1 0 none) h24 fun n25=>
(aI .u64 (Addr.mk b3 0 none) h24 fun n26=>
(aI .i64 (Addr.add (Addr.mk b3 0 none) 1) h24 fun n27=>
(aI .i64 (Addr.mk b5 0 none) h24 fun n28=>
(Q n25 n26 n27 n28 h24)))))) h23)) h19)
(bsel (decide (p2≥(140737488355328:Int)))
(f_qcs (1:Int) (0:Int) (0:Int) (fun h29=>
(R20 h29)) (fun v30 h31=>(f_qeb_v (some (Addr.mk b1 0 none)) (some (Addr.mk b3 0 none)) (some (Addr.mk b5 0 none)) v30 (fun h32=>
(aI .u64 (Addr.mk b1 0 none) h32 fun n33=>
(aI .u64 (Addr.mk b3 0 none) h32 fun n34=>
(aI .i64 (Addr.add (Addr.mk b3 0 none) 1) h32 fun n35=>
(aI .i64 (Addr.mk b5 0 none) h32 fun n36=>
(Q n33 n34 n35 n36 h32)))))) h31)) h19)
(R20 h19))))))∧
(∃ R8:Bool→AH→Prop,(∀ b9:Bool,∀ h10,R8 b9 h10→
(bsel b9
(R7 h10)
(f_qcs (1:Int) (0:Int) (0:Int) (fun h11=>
(R7 h11)) (fun v12 h13=>(f_qeb_v (some (Addr.mk b1 0 none)) (some (Addr.mk b3 0 none)) (some (Addr.mk b5 0 none)) v12 (fun h14=>
(aI .u64 (Addr.mk b1 0 none) h14 fun n15=>
(aI .u64 (Addr.mk b3 0 none) h14 fun n16=>
(aI .i64 (Addr.add (Addr.mk b3 0 none) 1) h14 fun n17=>
(aI .i64 (Addr.mk b5 0 none) h14 fun n18=>
(Q n15 n16 n17 n18 h14)))))) h13)) h10)))∧
(bsel (p3==(1:Int))
(R8 (p3==(1:Int)) h6)
(bsel (p3==(2:Int))
(R8 (p3==(2:Int)) h6)
(bsel (p3==(4:Int))
(R8 (p3==(4:Int)) h6)
(R8 (p3==(8:Int)) h6)))))))))
def qec_A:qec_T:=qec_G qcs_A qea_A qbp_A qdk_A qeb_nA (qeb_vA qeb_pA)
def qec_W (f:qec_T):ArS [.c .p,.c (.i .i64),.c (.i .u64),.c (.i .i64),.c .b,.c (.i .u64)] EnR:=fun p0 p1 p2 p3 p4 p5 K _Kp=>f p0 p1 p2 p3 p4 p5 (fun r0 r1 r2 r3=>K (.tuple #[(.int .u64 r0),(.agg #[(.int .u64 r1),(.int .i64 r2)]),(.int .i64 r3)]))
abbrev qed_T:=Int→Int→Int→Int→Int→Int→Bool→Int→Int→Int→Int→Int→Int→Int→Int→(Int→Int→Int→Int→Int→Int→Bool→Int→Int→Int→Int→Int→Int→Int→AH→Prop)→AP
def qed_A (p0:Int) (p1:Int) (p2:Int) (p3:Int) (p4:Int) (p5:Int) (p6:Bool) (p7:Int) (p8:Int) (p9:Int) (p10:Int) (p11:Int) (p12:Int) (p13:Int) (p14:Int) (Q:Int→Int→Int→Int→Int→Int→Bool→Int→Int→Int→Int→Int→Int→Int→AH→Prop) (h:AH):Prop:=
(newA h (.cells #[(.int .u64 p13),(.int .i64 p14)] 39) fun b1 h2=>
(bsel (p5==(0:Int))
(Q p0 p1 p2 p3 p4 p5 p6 p7 p8 p9 p10 p11 p12 (5:Int) h2)
(bsel p6
(Q p0 p1 p2 p3 p4 p5 p6 p7 p8 p9 p10 p11 p12 (11:Int) h2)
(aI .u64 (Addr.mk b1 0 none) h2 fun n3=>
(aI .i64 (Addr.add (Addr.mk b1 0 none) 1) h2 fun n4=>
((aI .u64 (Addr.mk b1 0 none) h2 fun n5=>
(aI .i64 (Addr.add (Addr.mk b1 0 none) 1) h2 fun n6=>
(((.agg #[(.int .u64 n5),(.int .i64 n6)]):Value)=(.agg #[(.int .u64 n3),(.int .i64 n4)]))))∧
(aI .u64 (Addr.mk b1 0 none) h2 fun n7=>
(aI .i64 (Addr.add (Addr.mk b1 0 none) 1) h2 fun n8=>
(Q n7 ((IntKind.wrap .u64 n8):Int) (0:Int) (0:Int) p4 p5 (true:Bool) n3 n4 p0 p1 p2 p3 (0:Int) h2)))))))))
def qed_W (f:qed_T):ArS [.agg [(.i .u64),(.i .u64),(.i .u64),(.i .u64),(.i .i64),(.i .u64),.b,(.i .u64),(.i .i64),(.i .u64),(.i .u64),(.i .u64),(.i .u64)],.agg [(.i .u64),(.i .i64)]] EnR:=fun p0 p1 p2 p3 p4 p5 p6 p7 p8 p9 p10 p11 p12 p13 p14 K _Kp=>f p0 p1 p2 p3 p4 p5 p6 p7 p8 p9 p10 p11 p12 p13 p14 (fun r0 r1 r2 r3 r4 r5 r6 r7 r8 r9 r10 r11 r12 r13=>K (.tuple #[(.agg #[(.int .u64 r0),(.int .u64 r1),(.int .u64 r2),(.int .u64 r3),(.int .i64 r4),(.int .u64 r5),(.bool r6),(.int .u64 r7),(.int .i64 r8),(.int .u64 r9),(.int .u64 r10),(.int .u64 r11),(.int .u64 r12)]),(.int .i64 r13)]))
abbrev qee_T:=Option Addr→Int→Int→Int→Int→Bool→Bool→Bool→Int→Int→Int→Int→Int→Int→Int→(Int→Int→Int→Int→Int→Bool→AH→Prop)→AP
def qee_G (f_qec:qec_T) (f_qed:qed_T) (p0:Option Addr) (p1:Int) (p2:Int) (_p3:Int) (_p4:Int) (_p5:Bool) (_p6:Bool) (_p7:Bool) (p8:Int) (p9:Int) (p10:Int) (_p11:Int) (_p12:Int) (_p13:Int) (_p14:Int) (Q:Int→Int→Int→Int→Int→Bool→AH→Prop) (h:AH):Prop:=
(onSome p0 fun a1=>
(aM (Addr.add a1 3) h fun mp2=>
(aLk h mp2 .i64 p1 fun o3=>
(∃ pt4:Option Addr,((o3.getD (.pointer none)):Value)=(.pointer pt4)∧
(onSome p0 fun a5=>
(onSome pt4 fun a6=>
(aP a5 h fun pt7=>
(aI .i64 (Addr.add a6 1) h fun n8=>
(f_qec pt7 n8 p8 p9 (p2==(5:Int)) p10 (fun n9 n10 n11 n12 h13=>
(∃ R14:Bool→AH→Prop,(∀ c58:Bool,∀ h59,R14 c58 h59→
(Q p1 n9 n12 n10 n11 c58 h59))∧
(bsel (n12==(9:Int))
(onSome pt4 fun a15=>
(aI .u64 (Addr.add a15 3) h13 fun n16=>
(aI .u64 (Addr.add (Addr.add a15 3) 1) h13 fun n17=>
(aI .u64 (Addr.add (Addr.add a15 3) 2) h13 fun n18=>
(aI .u64 (Addr.add (Addr.add a15 3) 3) h13 fun n19=>
(aI .i64 (Addr.add (Addr.add a15 3) 4) h13 fun n20=>
(aI .u64 (Addr.add (Addr.add a15 3) 5) h13 fun n21=>
(aB (Addr.add (Addr.add a15 3) 6) h13 fun b22=>
(aI .u64 (Addr.add (Addr.add a15 3) 7) h13 fun n23=>
(aI .i64 (Addr.add (Addr.add a15 3) 8) h13 fun n24=>
(aI .u64 (Addr.add (Addr.add a15 3) 9) h13 fun n25=>
(aI .u64 (Addr.add (Addr.add a15 3) 10) h13 fun n26=>
(aI .u64 (Addr.add (Addr.add a15 3) 11) h13 fun n27=>
(aI .u64 (Addr.add (Addr.add a15 3) 12) h13 fun n28=>
(f_qed n16 n17 n18 n19 n20 n21 b22 n23 n24 n25 n26 n27 n28 n10 n11 (fun n29 n30 n31 n32 n33 n34 b35 n36 n37 n38 n39 n40 n41 n42 h43=>
(onSome pt4 fun a44=>
(aC (Addr.add a44 3) (.int .u64 n29) h43 fun h45=>
(aC (Addr.add (Addr.add a44 3) 1) (.int .u64 n30) h45 fun h46=>
(aC (Addr.add (Addr.add a44 3) 2) (.int .u64 n31) h46 fun h47=>
(aC (Addr.add (Addr.add a44 3) 3) (.int .u64 n32) h47 fun h48=>
(aC (Addr.add (Addr.add a44 3) 4) (.int .i64 n33) h48 fun h49=>
(aC (Addr.add (Addr.add a44 3) 5) (.int .u64 n34) h49 fun h50=>
(aC (Addr.add (Addr.add a44 3) 6) (.bool b35) h50 fun h51=>
(aC (Addr.add (Addr.add a44 3) 7) (.int .u64 n36) h51 fun h52=>
(aC (Addr.add (Addr.add a44 3) 8) (.int .i64 n37) h52 fun h53=>
(aC (Addr.add (Addr.add a44 3) 9) (.int .u64 n38) h53 fun h54=>
(aC (Addr.add (Addr.add a44 3) 10) (.int .u64 n39) h54 fun h55=>
(aC (Addr.add (Addr.add a44 3) 11) (.int .u64 n40) h55 fun h56=>
(aC (Addr.add (Addr.add a44 3) 12) (.int .u64 n41) h56 fun h57=>
(R14 (n42==(0:Int)) h57)))))))))))))))) h13)))))))))))))))
(R14 false h13)))) h)))))))))
def qee_A:qee_T:=qee_G qec_A qed_A
def qee_W (f:qee_T):ArS [.c .p,.c (.i .i64),.agg [(.i .i64),(.i .i64),(.i .i64),.b,.b,.b,(.i .u64),(.i .i64),(.i .u64),(.i .i64),(.i .i64),(.i .i64),(.i .i64)]] EnR:=fun p0 p1 p2 p3 p4 p5 p6 p7 p8 p9 p10 p11 p12 p13 p14 K _Kp=>f p0 p1 p2 p3 p4 p5 p6 p7 p8 p9 p10 p11 p12 p13 p14 (fun r0 r1 r2 r3 r4 r5=>K (.agg #[(.int .i64 r0),(.int .u64 r1),(.int .i64 r2),(.int .u64 r3),(.int .i64 r4),(.bool r5)]))
abbrev qef_T:=Int→Int→(Bool→AH→Prop)→AP
def qef_A (p0:Int) (p1:Int) (Q:Bool→AH→Prop) (h:AH):Prop:=
(bsel (decide (p0≥(0:Int)))
(bsel (decide (p1 > p0))
(bsel (decide (p1≤(34359738368:Int)))
(Q (decide ((IntKind.wrap .i64 (p1-p0))≤(65536:Int))) h)
(Q false h))
(Q false h))
(Q false h))
def qef_W (f:qef_T):ArS [.agg [(.i .i64),(.i .i64)]] EnR:=fun p0 p1 K _Kp=>f p0 p1 (fun r0=>K (.bool r0))
abbrev qeg_T:=Int→Int→Bool→Bool→Bool→Int→Int→Int→Bool→Bool→Bool→Int→(Bool→AH→Prop)→AP
def qeg_A (_p0:Int) (p1:Int) (p2:Bool) (p3:Bool) (p4:Bool) (p5:Int) (p6:Int) (_p7:Int) (p8:Bool) (p9:Bool) (p10:Bool) (p11:Int) (Q:Bool→AH→Prop) (h:AH):Prop:=
(bsel (p1==p6)
(bsel ((p2==p8)&&((p3==p9)&&((p4==p10)&&true)))
(Q (p5==p11) h)
(Q false h))
(Q false h))
def qeg_W (f:qeg_T):ArS [.agg [(.i .i64),(.i .i64),.b,.b,.b,(.i .i64)],.agg [(.i .i64),(.i .i64),.b,.b,.b,(.i .i64)]] EnR:=fun p0 p1 p2 p3 p4 p5 p6 p7 p8 p9 p10 p11 K _Kp=>f p0 p1 p2 p3 p4 p5 p6 p7 p8 p9 p10 p11 (fun r0=>K (.bool r0))
abbrev qeh_T:=Sl→(Bool→AH→Prop)→AP
def qeh_G (f_qeg:qeg_T) (p0:Sl) (Q:Bool→AH→Prop) (h:AH):Prop:=
(bsel (decide ((Int.ofNat p0.len) > (64:Int)))
(Q false h)
(∃ I1:Int→Nat→AH→Prop,(∃ m2,I1 (0:Int) m2 h)∧∀ x5:Int,∀ m2 h4,I1 x5 m2 h4→
(bsel (decide (x5<(Int.ofNat p0.len)))
(onSome p0.a fun a6=>
(inB x5 p0.len
(aI .i64 (Addr.add a6 (Int.toNat x5*6)) h4 fun n7=>
(aI .i64 (Addr.add (Addr.add a6 (Int.toNat x5*6)) 1) h4 fun n8=>
(aB (Addr.add (Addr.add a6 (Int.toNat x5*6)) 2) h4 fun b9=>
(aB (Addr.add (Addr.add a6 (Int.toNat x5*6)) 3) h4 fun b10=>
(aB (Addr.add (Addr.add a6 (Int.toNat x5*6)) 4) h4 fun b11=>
(aI .i64 (Addr.add (Addr.add a6 (Int.toNat x5*6)) 5) h4 fun n12=>
(bsel (decide (n7<(0:Int)))
(Q false h4)
(bsel (decide (n8≤n7))
(Q false h4)
(bsel (decide (n8 > (34359738368:Int)))
(Q false h4)
(bsel (decide (x5 > (0:Int)))
(onSome p0.a fun a13=>
(inB (IntKind.wrap .i64 (x5-(1:Int))) p0.len
(aI .i64 (Addr.add (Addr.add a13 (Int.toNat (IntKind.wrap .i64 (x5-(1:Int)))*6)) 1) h4 fun n14=>
(bsel (decide (n14 > n7))
(Q false h4)
(onSome p0.a fun a15=>
(inB (IntKind.wrap .i64 (x5-(1:Int))) p0.len
(aI .i64 (Addr.add a15 (Int.toNat (IntKind.wrap .i64 (x5-(1:Int)))*6)) h4 fun n16=>
(aI .i64 (Addr.add (Addr.add a15 (Int.toNat (IntKind.wrap .i64 (x5-(1:Int)))*6)) 1) h4 fun n17=>
(aB (Addr.add (Addr.add a15 (Int.toNat (IntKind.wrap .i64 (x5-(1:Int)))*6)) 2) h4 fun b18=>
(aB (Addr.add (Addr.add a15 (Int.toNat (IntKind.wrap .i64 (x5-(1:Int)))*6)) 3) h4 fun b19=>
(aB (Addr.add (Addr.add a15 (Int.toNat (IntKind.wrap .i64 (x5-(1:Int)))*6)) 4) h4 fun b20=>
(aI .i64 (Addr.add (Addr.add a15 (Int.toNat (IntKind.wrap .i64 (x5-(1:Int)))*6)) 5) h4 fun n21=>
(f_qeg n16 n17 b18 b19 b20 n21 n7 n8 b9 b10 b11 n12 (fun b22 h23=>
(bsel b22
(Q false h23)
(∃ m3,m3<m2∧I1 (IntKind.wrap .i64 (x5+(1:Int))) m3 h23))) h4)))))))))))))
(∃ m3,m3<m2∧I1 (IntKind.wrap .i64 (x5+(1:Int))) m3 h4)))))))))))))
(Q true h4))))
def qeh_A:qeh_T:=qeh_G qeg_A
def qeh_W (f:qeh_T):ArS [.c .s] EnR:=fun p0 K _Kp=>f p0 (fun r0=>K (.bool r0))
abbrev qei_T:=Sl→(Sl→AH→Prop)→AP
def qei_A (p0:Sl) (Q:Sl→AH→Prop) (h:AH):Prop:=
(bsel (Option.isNone p0.a)
(Q Sl.nil h)
(newA h (.cells #[] 237) fun b1 h2=>
(apA 6 32 #[(.int .i64 (0:Int)),(.int .i64 (0:Int)),(.bool false),(.bool false),(.bool false),(.int .i64 (0:Int))] 237 (Sl.mk (some (Addr.mk b1 0 none)) 0 0) p0 h2 fun s3 h4=>
(Q s3 h4))))
def qei_W (f:qei_T):ArS [.c .s] EnR:=fun p0 K _Kp=>f p0 (fun r0=>K (.slice r0.a r0.len r0.cap))
abbrev qej_T:=Sl→Sl→(Bool→AH→Prop)→AP
def qej_A:qej_T:=ovA
def qej_W (f:qej_T):ArS [.c .s,.c .s] EnR:=fun p0 p1 K _Kp=>f p0 p1 (fun r0=>K (.bool r0))
abbrev qek_T:=Sl→(AH→Prop)→AP
def qek_A (p0:Sl) (Q:AH→Prop) (h:AH):Prop:=
(∃ I1:Int→Int→Nat→AH→Prop,(∃ m2,I1 (0:Int) (IntKind.wrap .i64 ((Int.ofNat p0.len)-(1:Int))) m2 h)∧∀ x5:Int,∀ x6:Int,∀ m2 h4,I1 x5 x6 m2 h4→
(bsel (decide (x5<x6))
(onSome p0.a fun a7=>
(inB x6 p0.len
(onSome p0.a fun a8=>
(inB x5 p0.len
(aI .i64 (Addr.add a7 (Int.toNat x6*6)) h4 fun n9=>
(aI .i64 (Addr.add (Addr.add a7 (Int.toNat x6*6)) 1) h4 fun n10=>
(aB (Addr.add (Addr.add a7 (Int.toNat x6*6)) 2) h4 fun b11=>
(aB (Addr.add (Addr.add a7 (Int.toNat x6*6)) 3) h4 fun b12=>
(aB (Addr.add (Addr.add a7 (Int.toNat x6*6)) 4) h4 fun b13=>
(aI .i64 (Addr.add (Addr.add a7 (Int.toNat x6*6)) 5) h4 fun n14=>
(aI .i64 (Addr.add a8 (Int.toNat x5*6)) h4 fun n15=>
(aI .i64 (Addr.add (Addr.add a8 (Int.toNat x5*6)) 1) h4 fun n16=>
(aB (Addr.add (Addr.add a8 (Int.toNat x5*6)) 2) h4 fun b17=>
(aB (Addr.add (Addr.add a8 (Int.toNat x5*6)) 3) h4 fun b18=>
(aB (Addr.add (Addr.add a8 (Int.toNat x5*6)) 4) h4 fun b19=>
(aI .i64 (Addr.add (Addr.add a8 (Int.toNat x5*6)) 5) h4 fun n20=>
(onSome p0.a fun a21=>
(inB x5 p0.len
(aC (Addr.add a21 (Int.toNat x5*6)) (.int .i64 n9) h4 fun h22=>
(aC (Addr.add (Addr.add a21 (Int.toNat x5*6)) 1) (.int .i64 n10) h22 fun h23=>
(aC (Addr.add (Addr.add a21 (Int.toNat x5*6)) 2) (.bool b11) h23 fun h24=>
(aC (Addr.add (Addr.add a21 (Int.toNat x5*6)) 3) (.bool b12) h24 fun h25=>
(aC (Addr.add (Addr.add a21 (Int.toNat x5*6)) 4) (.bool b13) h25 fun h26=>
(aC (Addr.add (Addr.add a21 (Int.toNat x5*6)) 5) (.int .i64 n14) h26 fun h27=>
(onSome p0.a fun a28=>
(inB x6 p0.len
(aC (Addr.add a28 (Int.toNat x6*6)) (.int .i64 n15) h27 fun h29=>
(aC (Addr.add (Addr.add a28 (Int.toNat x6*6)) 1) (.int .i64 n16) h29 fun h30=>
(aC (Addr.add (Addr.add a28 (Int.toNat x6*6)) 2) (.bool b17) h30 fun h31=>
(aC (Addr.add (Addr.add a28 (Int.toNat x6*6)) 3) (.bool b18) h31 fun h32=>
(aC (Addr.add (Addr.add a28 (Int.toNat x6*6)) 4) (.bool b19) h32 fun h33=>
(aC (Addr.add (Addr.add a28 (Int.toNat x6*6)) 5) (.int .i64 n20) h33 fun h34=>
(∃ m3,m3<m2∧I1 (IntKind.wrap .i64 (x5+(1:Int))) (IntKind.wrap .i64 (x6-(1:Int))) m3 h34)))))))))))))))))))))))))))))))))
(Q h4)))
def qek_W (f:qek_T):ArS [.c .s] EnR:=fun p0 K _Kp=>f p0 (K (.tuple #[]))
abbrev qel_T:=Sl→Int→(AH→Prop)→AP
def qel_G (f_qek:qek_T) (p0:Sl) (p1:Int) (Q:AH→Prop) (h:AH):Prop:=
(inB p1 (p0.cap+1)
(f_qek (Sl.mk (if p0.cap=0 then p0.a else Option.map (fun x=>Addr.add x (0*6)) p0.a) (Int.toNat p1) p0.cap) (fun h1=>
(inB p1 (p0.len+1)
(f_qek (Sl.mk (if p0.cap=(Int.toNat p1) then p0.a else Option.map (fun x=>Addr.add x ((Int.toNat p1)*6)) p0.a) (p0.len-(Int.toNat p1)) (p0.cap-(Int.toNat p1))) (fun h2=>
(f_qek p0 (fun h3=>
(Q h3)) h2)) h1))) h))
def qel_A:qel_T:=qel_G qek_A
def qel_W (f:qel_T):ArS [.c .s,.c (.i .i64)] EnR:=fun p0 p1 K _Kp=>f p0 p1 (K (.tuple #[]))
abbrev qem_T:=Sl→Int→(AH→Prop)→AP
def qem_G (f_qel:qel_T) (p0:Sl) (p1:Int) (Q:AH→Prop) (h:AH):Prop:=
(f_qel p0 (IntKind.wrap .i64 ((Int.ofNat p0.len)-p1)) (fun h1=>
(Q h1)) h)
def qem_A:qem_T:=qem_G qel_A
def qem_W (f:qem_T):ArS [.c .s,.c (.i .i64)] EnR:=fun p0 p1 K _Kp=>f p0 p1 (K (.tuple #[]))
abbrev qen_T:=Sl→Int→Sl→(Sl→AH→Prop)→AP
def qen_G (f_qej:qej_T) (f_qem:qem_T) (p0:Sl) (p1:Int) (p2:Sl) (Q:Sl→AH→Prop) (h:AH):Prop:=
(inB p1 (p0.len+1)
(bsel ((Int.ofNat p2.len)==(0:Int))
(Q p0 h)
(bsel (p1==(Int.ofNat p0.len))
(apA 6 32 #[(.int .i64 (0:Int)),(.int .i64 (0:Int)),(.bool false),(.bool false),(.bool false),(.int .i64 (0:Int))] 237 p0 p2 h fun s1 h2=>
(Q s1 h2))
(bsel (decide ((IntKind.wrap .i64 ((Int.ofNat p0.len)+(Int.ofNat p2.len))) > (Int.ofNat p0.cap)))
(inB p1 (p0.cap+1)
(apZ 6 32 #[(.int .i64 (0:Int)),(.int .i64 (0:Int)),(.bool false),(.bool false),(.bool false),(.int .i64 (0:Int))] 237 (Sl.mk (if p0.cap=0 then p0.a else Option.map (fun x=>Addr.add x (0*6)) p0.a) (Int.toNat p1) p0.cap) (IntKind.wrap .i64 ((IntKind.wrap .i64 ((Int.ofNat p0.len)+(Int.ofNat p2.len)))-p1)) h fun s3 h4=>
(inB p1 (s3.len+1)
(cpA 6 (Sl.mk (if s3.cap=(Int.toNat p1) then s3.a else Option.map (fun x=>Addr.add x ((Int.toNat p1)*6)) s3.a) (s3.len-(Int.toNat p1)) (s3.cap-(Int.toNat p1))) p2 h4 fun _ h6=>
(inB (IntKind.wrap .i64 (p1+(Int.ofNat p2.len))) (s3.len+1)
(inB p1 (p0.len+1)
(cpA 6 (Sl.mk (if s3.cap=(Int.toNat (IntKind.wrap .i64 (p1+(Int.ofNat p2.len)))) then s3.a else Option.map (fun x=>Addr.add x ((Int.toNat (IntKind.wrap .i64 (p1+(Int.ofNat p2.len))))*6)) s3.a) (s3.len-(Int.toNat (IntKind.wrap .i64 (p1+(Int.ofNat p2.len))))) (s3.cap-(Int.toNat (IntKind.wrap .i64 (p1+(Int.ofNat p2.len)))))) (Sl.mk (if p0.cap=(Int.toNat p1) then p0.a else Option.map (fun x=>Addr.add x ((Int.toNat p1)*6)) p0.a) (p0.len-(Int.toNat p1)) (p0.cap-(Int.toNat p1))) h6 fun _ h8=>
(Q s3 h8))))))))
(inB (IntKind.wrap .i64 ((Int.ofNat p0.len)+(Int.ofNat p2.len))) (p0.cap+1)
(inB (IntKind.wrap .i64 (p1+(Int.ofNat p2.len))) ((Int.toNat (IntKind.wrap .i64 ((Int.ofNat p0.len)+(Int.ofNat p2.len))))+1)
(f_qej p2 (Sl.mk (if p0.cap=(Int.toNat (IntKind.wrap .i64 (p1+(Int.ofNat p2.len)))) then (if p0.cap=0 then p0.a else Option.map (fun x=>Addr.add x (0*6)) p0.a) else Option.map (fun x=>Addr.add x ((Int.toNat (IntKind.wrap .i64 (p1+(Int.ofNat p2.len))))*6)) (if p0.cap=0 then p0.a else Option.map (fun x=>Addr.add x (0*6)) p0.a)) ((Int.toNat (IntKind.wrap .i64 ((Int.ofNat p0.len)+(Int.ofNat p2.len))))-(Int.toNat (IntKind.wrap .i64 (p1+(Int.ofNat p2.len))))) (p0.cap-(Int.toNat (IntKind.wrap .i64 (p1+(Int.ofNat p2.len)))))) (fun b9 h10=>
(bsel (!b9)
(inB (IntKind.wrap .i64 (p1+(Int.ofNat p2.len))) ((Int.toNat (IntKind.wrap .i64 ((Int.ofNat p0.len)+(Int.ofNat p2.len))))+1)
(inB p1 ((Int.toNat (IntKind.wrap .i64 ((Int.ofNat p0.len)+(Int.ofNat p2.len))))+1)
(cpA 6 (Sl.mk (if p0.cap=(Int.toNat (IntKind.wrap .i64 (p1+(Int.ofNat p2.len)))) then (if p0.cap=0 then p0.a else Option.map (fun x=>Addr.add x (0*6)) p0.a) else Option.map (fun x=>Addr.add x ((Int.toNat (IntKind.wrap .i64 (p1+(Int.ofNat p2.len))))*6)) (if p0.cap=0 then p0.a else Option.map (fun x=>Addr.add x (0*6)) p0.a)) ((Int.toNat (IntKind.wrap .i64 ((Int.ofNat p0.len)+(Int.ofNat p2.len))))-(Int.toNat (IntKind.wrap .i64 (p1+(Int.ofNat p2.len))))) (p0.cap-(Int.toNat (IntKind.wrap .i64 (p1+(Int.ofNat p2.len)))))) (Sl.mk (if p0.cap=(Int.toNat p1) then (if p0.cap=0 then p0.a else Option.map (fun x=>Addr.add x (0*6)) p0.a) else Option.map (fun x=>Addr.add x ((Int.toNat p1)*6)) (if p0.cap=0 then p0.a else Option.map (fun x=>Addr.add x (0*6)) p0.a)) ((Int.toNat (IntKind.wrap .i64 ((Int.ofNat p0.len)+(Int.ofNat p2.len))))-(Int.toNat p1)) (p0.cap-(Int.toNat p1))) h10 fun _ h12=>
(inB p1 ((Int.toNat (IntKind.wrap .i64 ((Int.ofNat p0.len)+(Int.ofNat p2.len))))+1)
(cpA 6 (Sl.mk (if p0.cap=(Int.toNat p1) then (if p0.cap=0 then p0.a else Option.map (fun x=>Addr.add x (0*6)) p0.a) else Option.map (fun x=>Addr.add x ((Int.toNat p1)*6)) (if p0.cap=0 then p0.a else Option.map (fun x=>Addr.add x (0*6)) p0.a)) ((Int.toNat (IntKind.wrap .i64 ((Int.ofNat p0.len)+(Int.ofNat p2.len))))-(Int.toNat p1)) (p0.cap-(Int.toNat p1))) p2 h12 fun _ h14=>
(Q (Sl.mk (if p0.cap=0 then p0.a else Option.map (fun x=>Addr.add x (0*6)) p0.a) (Int.toNat (IntKind.wrap .i64 ((Int.ofNat p0.len)+(Int.ofNat p2.len)))) p0.cap) h14))))))
(inB (Int.ofNat p0.len) ((Int.toNat (IntKind.wrap .i64 ((Int.ofNat p0.len)+(Int.ofNat p2.len))))+1)
(cpA 6 (Sl.mk (if p0.cap=(Int.toNat (Int.ofNat p0.len)) then (if p0.cap=0 then p0.a else Option.map (fun x=>Addr.add x (0*6)) p0.a) else Option.map (fun x=>Addr.add x ((Int.toNat (Int.ofNat p0.len))*6)) (if p0.cap=0 then p0.a else Option.map (fun x=>Addr.add x (0*6)) p0.a)) ((Int.toNat (IntKind.wrap .i64 ((Int.ofNat p0.len)+(Int.ofNat p2.len))))-(Int.toNat (Int.ofNat p0.len))) (p0.cap-(Int.toNat (Int.ofNat p0.len)))) p2 h10 fun _ h16=>
(inB p1 ((Int.toNat (IntKind.wrap .i64 ((Int.ofNat p0.len)+(Int.ofNat p2.len))))+1)
(f_qem (Sl.mk (if p0.cap=(Int.toNat p1) then (if p0.cap=0 then p0.a else Option.map (fun x=>Addr.add x (0*6)) p0.a) else Option.map (fun x=>Addr.add x ((Int.toNat p1)*6)) (if p0.cap=0 then p0.a else Option.map (fun x=>Addr.add x (0*6)) p0.a)) ((Int.toNat (IntKind.wrap .i64 ((Int.ofNat p0.len)+(Int.ofNat p2.len))))-(Int.toNat p1)) (p0.cap-(Int.toNat p1))) (Int.ofNat p2.len) (fun h17=>
(Q (Sl.mk (if p0.cap=0 then p0.a else Option.map (fun x=>Addr.add x (0*6)) p0.a) (Int.toNat (IntKind.wrap .i64 ((Int.ofNat p0.len)+(Int.ofNat p2.len)))) p0.cap) h17)) h16)))))) h)))))))
def qen_A:qen_T:=qen_G qej_A qem_A
def qen_W (f:qen_T):ArS [.c .s,.c (.i .i64),.c .s] EnR:=fun p0 p1 p2 K _Kp=>f p0 p1 p2 (fun r0=>K (.slice r0.a r0.len r0.cap))
abbrev qeo_T:=Sl→(Sl→AH→Prop)→AP
def qeo_G (f_qeg:qeg_T) (p0:Sl) (Q:Sl→AH→Prop) (h:AH):Prop:=
(∃ I1:Sl→Int→Nat→AH→Prop,(∃ m2,I1 Sl.nil (0:Int) m2 h)∧∀ s5:Sl,∀ x6:Int,∀ m2 h4,I1 s5 x6 m2 h4→
(bsel (decide (x6<(Int.ofNat p0.len)))
(∃ R7:Sl→AH→Prop,(∀ s34:Sl,∀ h35,R7 s34 h35→
(∃ m3,m3<m2∧I1 s34 (IntKind.wrap .i64 (x6+(1:Int))) m3 h35))∧
(onSome p0.a fun a8=>
(inB x6 p0.len
(aI .i64 (Addr.add a8 (Int.toNat x6*6)) h4 fun n9=>
(aI .i64 (Addr.add (Addr.add a8 (Int.toNat x6*6)) 1) h4 fun n10=>
(aB (Addr.add (Addr.add a8 (Int.toNat x6*6)) 2) h4 fun b11=>
(aB (Addr.add (Addr.add a8 (Int.toNat x6*6)) 3) h4 fun b12=>
(aB (Addr.add (Addr.add a8 (Int.toNat x6*6)) 4) h4 fun b13=>
(aI .i64 (Addr.add (Addr.add a8 (Int.toNat x6*6)) 5) h4 fun n14=>
(bsel (decide ((Int.ofNat s5.len) > (0:Int)))
(onSome s5.a fun a15=>
(inB (IntKind.wrap .i64 ((Int.ofNat s5.len)-(1:Int))) s5.len
(aI .i64 (Addr.add a15 (Int.toNat (IntKind.wrap .i64 ((Int.ofNat s5.len)-(1:Int)))*6)) h4 fun n16=>
(aI .i64 (Addr.add (Addr.add a15 (Int.toNat (IntKind.wrap .i64 ((Int.ofNat s5.len)-(1:Int)))*6)) 1) h4 fun n17=>
(aB (Addr.add (Addr.add a15 (Int.toNat (IntKind.wrap .i64 ((Int.ofNat s5.len)-(1:Int)))*6)) 2) h4 fun b18=>
(aB (Addr.add (Addr.add a15 (Int.toNat (IntKind.wrap .i64 ((Int.ofNat s5.len)-(1:Int)))*6)) 3) h4 fun b19=>
(aB (Addr.add (Addr.add a15 (Int.toNat (IntKind.wrap .i64 ((Int.ofNat s5.len)-(1:Int)))*6)) 4) h4 fun b20=>
(aI .i64 (Addr.add (Addr.add a15 (Int.toNat (IntKind.wrap .i64 ((Int.ofNat s5.len)-(1:Int)))*6)) 5) h4 fun n21=>
(f_qeg n16 n17 b18 b19 b20 n21 n9 n10 b11 b12 b13 n14 (fun b22 h23=>
(bsel b22
(onSome s5.a fun a24=>
(inB (IntKind.wrap .i64 ((Int.ofNat s5.len)-(1:Int))) s5.len
(aC (Addr.add (Addr.add a24 (Int.toNat (IntKind.wrap .i64 ((Int.ofNat s5.len)-(1:Int)))*6)) 1) (.int .i64 n10) h23 fun h25=>
(R7 s5 h25))))
(newA h23 (.cells #[(.int .i64 n9),(.int .i64 n10),(.bool b11),(.bool b12),(.bool b13),(.int .i64 n14)] 237) fun b26 h27=>
(apA 6 32 #[(.int .i64 (0:Int)),(.int .i64 (0:Int)),(.bool false),(.bool false),(.bool false),(.int .i64 (0:Int))] 237 s5 (Sl.mk (some (Addr.mk b26 0 none)) 1 1) h27 fun s28 h29=>
(R7 s28 h29))))) h4)))))))))
(newA h4 (.cells #[(.int .i64 n9),(.int .i64 n10),(.bool b11),(.bool b12),(.bool b13),(.int .i64 n14)] 237) fun b30 h31=>
(apA 6 32 #[(.int .i64 (0:Int)),(.int .i64 (0:Int)),(.bool false),(.bool false),(.bool false),(.int .i64 (0:Int))] 237 s5 (Sl.mk (some (Addr.mk b30 0 none)) 1 1) h31 fun s32 h33=>
(R7 s32 h33)))))))))))))
(Q s5 h4)))
def qeo_A:qeo_T:=qeo_G qeg_A
def qeo_W (f:qeo_T):ArS [.c .s] EnR:=fun p0 K _Kp=>f p0 (fun r0=>K (.slice r0.a r0.len r0.cap))
abbrev qep_T:=Sl→(Sl→Int→AH→Prop)→AP
def qep_A (p0:Sl) (Q:Sl→Int→AH→Prop) (h:AH):Prop:=
(bsel (decide ((Int.ofNat p0.len) > (64:Int)))
(Q Sl.nil (4:Int) h)
(Q p0 (0:Int) h))
def qep_W (f:qep_T):ArS [.c .s] EnR:=fun p0 K _Kp=>f p0 (fun r0 r1=>K (.tuple #[(.slice r0.a r0.len r0.cap),(.int .i64 r1)]))
abbrev qeq_T:=Sl→Int→Int→Bool→Bool→Bool→Int→(Sl→Int→AH→Prop)→AP
def qeq_G (f_qef:qef_T) (f_qeh:qeh_T) (f_qei:qei_T) (f_qen:qen_T) (f_qeo:qeo_T) (f_qep:qep_T) (p0:Sl) (p1:Int) (p2:Int) (p3:Bool) (p4:Bool) (p5:Bool) (p6:Int) (Q:Sl→Int→AH→Prop) (h:AH):Prop:=
(f_qef p1 p2 (fun b1 h2=>
(bsel (!b1)
(Q Sl.nil (1:Int) h2)
(f_qeh p0 (fun b3 h4=>
(bsel (!b3)
(Q Sl.nil (3:Int) h4)
(∃ I5:Int→Int→Nat→AH→Prop,(∃ m6,I5 (0:Int) (0:Int) m6 h4)∧∀ x9:Int,∀ x10:Int,∀ m6 h8,I5 x9 x10 m6 h8→
(bsel (decide (x10<(Int.ofNat p0.len)))
(∃ R11:Int→AH→Prop,(∀ x19:Int,∀ h20,R11 x19 h20→
(∃ m7,m7<m6∧I5 x19 (IntKind.wrap .i64 (x10+(1:Int))) m7 h20))∧
(onSome p0.a fun a12=>
(inB x10 p0.len
(aI .i64 (Addr.add a12 (Int.toNat x10*6)) h8 fun n13=>
(aI .i64 (Addr.add (Addr.add a12 (Int.toNat x10*6)) 1) h8 fun n14=>
(aB (Addr.add (Addr.add a12 (Int.toNat x10*6)) 2) h8 fun _=>
(aB (Addr.add (Addr.add a12 (Int.toNat x10*6)) 3) h8 fun _=>
(aB (Addr.add (Addr.add a12 (Int.toNat x10*6)) 4) h8 fun _=>
(aI .i64 (Addr.add (Addr.add a12 (Int.toNat x10*6)) 5) h8 fun _=>
(bsel (decide (n14≤p1))
(R11 (IntKind.wrap .i64 (x10+(1:Int))) h8)
(bsel (decide (n13<p2))
(Q Sl.nil (6:Int) h8)
(R11 x9 h8))))))))))))
((f_qei p0 (fun s21 h22=>
(newA h22 (.cells #[(.int .i64 p1),(.int .i64 p2),(.bool p3),(.bool p4),(.bool p5),(.int .i64 p6)] 237) fun b23 h24=>
(f_qen s21 x9 (Sl.mk (some (Addr.mk b23 0 none)) 1 1) (fun s25 h26=>
(f_qeo s25 (fun s27 h28=>
(f_qep s27 (fun s29 n30 h31=>
(Q s29 n30 h31)) h28)) h26)) h24))) h8)∧
(newA h8 (.cells #[(.int .i64 p1),(.int .i64 p2),(.bool p3),(.bool p4),(.bool p5),(.int .i64 p6)] 237) fun b32 h33=>
(f_qei p0 (fun s34 h35=>
(f_qen s34 x9 (Sl.mk (some (Addr.mk b32 0 none)) 1 1) (fun s36 h37=>
(f_qeo s36 (fun s38 h39=>
(f_qep s38 (fun s40 n41 h42=>
(Q s40 n41 h42)) h39)) h37)) h35)) h33))))))) h2))) h)
def qeq_A:qeq_T:=qeq_G qef_A qeh_A qei_A qen_A qeo_A qep_A
def qeq_W (f:qeq_T):ArS [.c .s,.agg [(.i .i64),(.i .i64),.b,.b,.b,(.i .i64)]] EnR:=fun p0 p1 p2 p3 p4 p5 p6 K _Kp=>f p0 p1 p2 p3 p4 p5 p6 (fun r0 r1=>K (.tuple #[(.slice r0.a r0.len r0.cap),(.int .i64 r1)]))
abbrev qer_T:=Option Addr→Int→Int→Int→Bool→Bool→Bool→(Int→AH→Prop)→AP
def qer_G (f_qeq:qeq_T) (p0:Option Addr) (p1:Int) (p2:Int) (p3:Int) (p4:Bool) (p5:Bool) (p6:Bool) (Q:Int→AH→Prop) (h:AH):Prop:=
(onSome p0 fun a1=>
(aM (Addr.add a1 6) h fun mp2=>
(aLk h mp2 .i64 p1 fun o3=>
(∃ pt4:Option Addr,((o3.getD (.pointer none)):Value)=(.pointer pt4)∧
(bsel pt4.isNone
(Q (5:Int) h)
(onSome pt4 fun a5=>
(aS (Addr.add a5 2) h fun s6=>
(f_qeq s6 p2 p3 p4 p5 p6 (0:Int) (fun s7 n8 h9=>
(∃ R10:AH→Prop,(∀ h13,R10 h13→
(Q n8 h13))∧
(bsel (n8==(0:Int))
(onSome pt4 fun a11=>
(aC (Addr.add a11 2) (.slice s7.a s7.len s7.cap) h9 fun h12=>
(R10 h12)))
(R10 h9)))) h))))))))
def qer_A:qer_T:=qer_G qeq_A
def qer_W (f:qer_T):ArS [.c .p,.c (.i .i64),.agg [(.i .i64),(.i .i64)],.agg [.b,.b,.b]] EnR:=fun p0 p1 p2 p3 p4 p5 p6 K _Kp=>f p0 p1 p2 p3 p4 p5 p6 (fun r0=>K (.int .i64 r0))
abbrev qes_T:=Option Addr→Int→Int→Int→(Int→AH→Prop)→AP
def qes_A:qes_T:=fun _ _ _ _ _ _=>False
def qes_W (f:qes_T):ArS [.c .p,.c (.i .i64),.agg [(.i .i64),(.i .i64)]] EnR:=fun p0 p1 p2 p3 K _Kp=>f p0 p1 p2 p3 (fun r0=>K (.int .i64 r0))
abbrev qet_T:=Option Addr→Int→Int→Int→Bool→Bool→Bool→(Int→AH→Prop)→AP
def qet_A:qet_T:=fun _ _ _ _ _ _ _ _ _=>False
def qet_W (f:qet_T):ArS [.c .p,.c (.i .i64),.agg [(.i .i64),(.i .i64)],.agg [.b,.b,.b]] EnR:=fun p0 p1 p2 p3 p4 p5 p6 K _Kp=>f p0 p1 p2 p3 p4 p5 p6 (fun r0=>K (.int .i64 r0))
abbrev qeu_T:=Option Addr→Int→Int→Int→Int→Bool→Bool→Bool→Int→Int→Int→Int→Int→Int→Int→(Int→Int→AH→Prop)→AP
def qeu_G (f_qer:qer_T) (f_qes:qes_T) (f_qet:qet_T) (p0:Option Addr) (p1:Int) (p2:Int) (p3:Int) (p4:Int) (p5:Bool) (p6:Bool) (p7:Bool) (_p8:Int) (_p9:Int) (_p10:Int) (_p11:Int) (_p12:Int) (_p13:Int) (_p14:Int) (Q:Int→Int→AH→Prop) (h:AH):Prop:=
(onSome p0 fun a1=>
(aP a1 h fun pt2=>
(onSome pt2 fun a3=>
(aP a3 h fun pt4=>
(onSome p0 fun a5=>
(aM (Addr.add a5 3) h fun mp6=>
(aLk h mp6 .i64 p1 fun o7=>
(∃ pt8:Option Addr,((o7.getD (.pointer none)):Value)=(.pointer pt8)∧
(onSome pt8 fun a9=>
(aI .i64 (Addr.add a9 1) h fun n10=>
(bsel (p2==(1:Int))
(f_qer pt4 n10 p3 p4 p5 p6 p7 (fun n11 h12=>
(Q (0:Int) n11 h12)) h)
(bsel (p2==(2:Int))
(f_qes pt4 n10 p3 p4 (fun n13 h14=>
(Q (0:Int) n13 h14)) h)
(f_qet pt4 n10 p3 p4 p5 p6 p7 (fun n15 h16=>
(Q (0:Int) n15 h16)) h)))))))))))))
def qeu_A:qeu_T:=qeu_G qer_A qes_A qet_A
def qeu_W (f:qeu_T):ArS [.c .p,.c (.i .i64),.agg [(.i .i64),(.i .i64),(.i .i64),.b,.b,.b,(.i .u64),(.i .i64),(.i .u64),(.i .i64),(.i .i64),(.i .i64),(.i .i64)]] EnR:=fun p0 p1 p2 p3 p4 p5 p6 p7 p8 p9 p10 p11 p12 p13 p14 K _Kp=>f p0 p1 p2 p3 p4 p5 p6 p7 p8 p9 p10 p11 p12 p13 p14 (fun r0 r1=>K (.tuple #[(.int .u64 r0),(.int .i64 r1)]))
abbrev qev_T:=Option Addr→Int→Int→Bool→(Int→AH→Prop)→AP
def qev_A:qev_T:=fun _ _ _ _ _ _=>False
def qev_W (f:qev_T):ArS [.c .p,.c (.i .i64),.c (.i .i64),.c .b] EnR:=fun p0 p1 p2 p3 K _Kp=>f p0 p1 p2 p3 (fun r0=>K (.int .i64 r0))
abbrev qew_T:=Option Addr→Int→Int→Int→Bool→(Int→Int→AH→Prop)→AP
def qew_A:qew_T:=fun _ _ _ _ _ _ _=>False
def qew_W (f:qew_T):ArS [.c .p,.c (.i .i64),.c (.i .i64),.c (.i .i64),.c .b] EnR:=fun p0 p1 p2 p3 p4 K _Kp=>f p0 p1 p2 p3 p4 (fun r0 r1=>K (.tuple #[(.int .i64 r0),(.int .i64 r1)]))
abbrev qex_T:=Option Addr→Int→Int→Int→Int→Bool→Bool→Bool→Int→Int→Int→Int→Int→Int→Int→(Int→Int→AH→Prop)→AP
def qex_G (f_qev:qev_T) (f_qew:qew_T) (p0:Option Addr) (p1:Int) (_p2:Int) (p3:Int) (_p4:Int) (p5:Bool) (_p6:Bool) (_p7:Bool) (_p8:Int) (_p9:Int) (_p10:Int) (p11:Int) (_p12:Int) (_p13:Int) (_p14:Int) (Q:Int→Int→AH→Prop) (h:AH):Prop:=
(onSome p0 fun a1=>
(aM (Addr.add a1 3) h fun mp2=>
(aLk h mp2 .i64 p1 fun o3=>
(∃ pt4:Option Addr,((o3.getD (.pointer none)):Value)=(.pointer pt4)∧
(onSome p0 fun a5=>
(aP a5 h fun pt6=>
(onSome pt6 fun a7=>
(aP a7 h fun pt8=>
(∃ R9:AH→Prop,(∀ h14,R9 h14→
(onSome pt4 fun a15=>
(aI .i64 (Addr.add a15 1) h14 fun n16=>
(f_qev pt8 n16 p3 p5 (fun n17 h18=>
(bsel (n17 != (0:Int))
(Q (0:Int) n17 h18)
(onSome p0 fun a19=>
(f_qew (some (Addr.add a19 2)) p1 p3 p11 p5 (fun n20 n21 h22=>
(Q (IntKind.wrap .u64 n20) n21 h22)) h18)))) h14))))∧
(onSome p0 fun a10=>
(aM (Addr.add a10 3) h fun mp11=>
(aLk h mp11 .i64 p11 fun o12=>
(∃ pt13:Option Addr,((o12.getD (.pointer none)):Value)=(.pointer pt13)∧
(bsel pt13.isNone
(Q (0:Int) (5:Int) h)
(bsel (p11==p1)
(Q (0:Int) (5:Int) h)
(R9 h))))))))))))))))
def qex_A:qex_T:=qex_G qev_A qew_A
def qex_W (f:qex_T):ArS [.c .p,.c (.i .i64),.agg [(.i .i64),(.i .i64),(.i .i64),.b,.b,.b,(.i .u64),(.i .i64),(.i .u64),(.i .i64),(.i .i64),(.i .i64),(.i .i64)]] EnR:=fun p0 p1 p2 p3 p4 p5 p6 p7 p8 p9 p10 p11 p12 p13 p14 K _Kp=>f p0 p1 p2 p3 p4 p5 p6 p7 p8 p9 p10 p11 p12 p13 p14 (fun r0 r1=>K (.tuple #[(.int .u64 r0),(.int .i64 r1)]))
abbrev qey_T:=Option Addr→Int→Int→Int→(Int→AH→Prop)→AP
def qey_A:qey_T:=fun _ _ _ _ _ _=>False
def qey_W (f:qey_T):ArS [.c .p,.c (.i .i64),.c (.i .i64),.c (.i .i64)] EnR:=fun p0 p1 p2 p3 K _Kp=>f p0 p1 p2 p3 (fun r0=>K (.int .i64 r0))
abbrev qez_T:=Option Addr→Int→(Int→Int→Int→Bool→Bool→Int→Bool→AH→Prop)→AP
def qez_A:qez_T:=fun _ _ _ _=>False
def qez_W (f:qez_T):ArS [.c .p,.c (.i .i64)] EnR:=fun p0 p1 K _Kp=>f p0 p1 (fun r0 r1 r2 r3 r4 r5 r6=>K (.tuple #[(.agg #[(.int .i64 r0),(.int .i64 r1),(.int .i64 r2),(.bool r3),(.bool r4),(.int .i64 r5)]),(.bool r6)]))
abbrev qfa_T:=Option Addr→Int→Int→Int→Int→Bool→Bool→Bool→(Int→AH→Prop)→AP
def qfa_A:qfa_T:=fun _ _ _ _ _ _ _ _ _ _=>False
def qfa_W (f:qfa_T):ArS [.c .p,.c (.i .i64),.c (.i .i64),.c (.i .i64),.c (.i .i64),.agg [.b,.b,.b]] EnR:=fun p0 p1 p2 p3 p4 p5 p6 p7 K _Kp=>f p0 p1 p2 p3 p4 p5 p6 p7 (fun r0=>K (.int .i64 r0))
abbrev qfb_T:=Option Addr→Int→Int→(Int→Int→Int→Bool→Bool→Int→Int→AH→Prop)→AP
def qfb_A:qfb_T:=fun _ _ _ _ _=>False
def qfb_W (f:qfb_T):ArS [.c .p,.c (.i .i64),.c (.i .i64)] EnR:=fun p0 p1 p2 K _Kp=>f p0 p1 p2 (fun r0 r1 r2 r3 r4 r5 r6=>K (.tuple #[(.agg #[(.int .i64 r0),(.int .i64 r1),(.int .i64 r2),(.bool r3),(.bool r4),(.int .i64 r5)]),(.int .i64 r6)]))
abbrev qfc_T:=Option Addr→Int→Int→Int→Int→Bool→Bool→Bool→Int→Int→Int→Int→Int→Int→Int→(Int→Int→AH→Prop)→AP
def qfc_G (f_qey:qey_T) (f_qez:qez_T) (f_qfa:qfa_T) (f_qfb:qfb_T) (p0:Option Addr) (p1:Int) (_p2:Int) (p3:Int) (_p4:Int) (_p5:Bool) (_p6:Bool) (_p7:Bool) (_p8:Int) (_p9:Int) (_p10:Int) (p11:Int) (_p12:Int) (_p13:Int) (_p14:Int) (Q:Int→Int→AH→Prop) (h:AH):Prop:=
(onSome p0 fun a1=>
(f_qey (some (Addr.add a1 2)) p11 p1 p3 (fun n2 h3=>
(bsel (n2 != (0:Int))
(Q (0:Int) n2 h3)
(onSome p0 fun a4=>
(f_qez (some (Addr.add a4 2)) p11 (fun n5 n6 _ b8 _ n10 _ h12=>
(onSome p0 fun a13=>
(aP a13 h12 fun pt14=>
(onSome pt14 fun a15=>
(aP a15 h12 fun pt16=>
(onSome p0 fun a17=>
(aM (Addr.add a17 3) h12 fun mp18=>
(aLk h12 mp18 .i64 n5 fun o19=>
(∃ pt20:Option Addr,((o19.getD (.pointer none)):Value)=(.pointer pt20)∧
(onSome pt20 fun a21=>
(aI .i64 (Addr.add a21 1) h12 fun n22=>
(onSome p0 fun a23=>
(aM (Addr.add a23 3) h12 fun mp24=>
(aLk h12 mp24 .i64 p1 fun o25=>
(∃ pt26:Option Addr,((o25.getD (.pointer none)):Value)=(.pointer pt26)∧
(onSome pt26 fun a27=>
(aI .i64 (Addr.add a27 1) h12 fun n28=>
(f_qfa pt16 n22 n6 n28 n10 b8 true false (fun n29 h30=>
(∃ R31:AH→Prop,(∀ h41,R31 h41→
(Q (0:Int) n29 h41))∧
(bsel (n29 != (0:Int))
(onSome p0 fun a32=>
(f_qfb (some (Addr.add a32 2)) p11 p1 (fun _ _ _ _ _ _ _ h40=>
(R31 h40)) h30))
(R31 h30)))) h12)))))))))))))))))) h3)))) h))
def qfc_A:qfc_T:=qfc_G qey_A qez_A qfa_A qfb_A
def qfc_W (f:qfc_T):ArS [.c .p,.c (.i .i64),.agg [(.i .i64),(.i .i64),(.i .i64),.b,.b,.b,(.i .u64),(.i .i64),(.i .u64),(.i .i64),(.i .i64),(.i .i64),(.i .i64)]] EnR:=fun p0 p1 p2 p3 p4 p5 p6 p7 p8 p9 p10 p11 p12 p13 p14 K _Kp=>f p0 p1 p2 p3 p4 p5 p6 p7 p8 p9 p10 p11 p12 p13 p14 (fun r0 r1=>K (.tuple #[(.int .u64 r0),(.int .i64 r1)]))
abbrev qfd_T:=Option Addr→Int→Int→Int→Bool→Bool→Int→(AH→Prop)→AP
def qfd_A:qfd_T:=fun _ _ _ _ _ _ _ _ _=>False
def qfd_W (f:qfd_T):ArS [.c .p,.agg [(.i .i64),(.i .i64),(.i .i64),.b,.b,(.i .i64)]] EnR:=fun p0 p1 p2 p3 p4 p5 p6 K _Kp=>f p0 p1 p2 p3 p4 p5 p6 (K (.tuple #[]))
abbrev qfe_T:=Option Addr→Int→Int→(Int→Int→Int→Bool→Bool→Int→Int→AH→Prop)→AP
def qfe_A:qfe_T:=fun _ _ _ _ _=>False
def qfe_W (f:qfe_T):ArS [.c .p,.c (.i .i64),.c (.i .i64)] EnR:=fun p0 p1 p2 K _Kp=>f p0 p1 p2 (fun r0 r1 r2 r3 r4 r5 r6=>K (.tuple #[(.agg #[(.int .i64 r0),(.int .i64 r1),(.int .i64 r2),(.bool r3),(.bool r4),(.int .i64 r5)]),(.int .i64 r6)]))
abbrev qff_T:=Option Addr→Int→Int→Int→Int→Bool→Bool→Bool→Int→Int→Int→Int→Int→Int→Int→(Int→Int→AH→Prop)→AP
def qff_G (f_qfb:qfb_T) (f_qfd:qfd_T) (f_qfe:qfe_T) (p0:Option Addr) (p1:Int) (p2:Int) (_p3:Int) (_p4:Int) (_p5:Bool) (_p6:Bool) (_p7:Bool) (_p8:Int) (_p9:Int) (_p10:Int) (p11:Int) (_p12:Int) (_p13:Int) (_p14:Int) (Q:Int→Int→AH→Prop) (h:AH):Prop:=
(onSome p0 fun a1=>
(bsel (p2==(9:Int))
(onSome p0 fun a2=>
(f_qfb (some (Addr.add a2 2)) p11 p1 (fun n3 n4 n5 b6 b7 n8 n9 h10=>
(∃ R11:AH→Prop,(∀ h13,R11 h13→
(Q (0:Int) n9 h13))∧
(bsel (n9==(0:Int))
(f_qfd p0 n3 n4 n5 b6 b7 n8 (fun h12=>
(R11 h12)) h10)
(R11 h10)))) h))
(f_qfe (some (Addr.add a1 2)) p11 p1 (fun n14 n15 n16 b17 b18 n19 n20 h21=>
(∃ R22:AH→Prop,(∀ h24,R22 h24→
(Q (0:Int) n20 h24))∧
(bsel (n20==(0:Int))
(f_qfd p0 n14 n15 n16 b17 b18 n19 (fun h23=>
(R22 h23)) h21)
(R22 h21)))) h)))
def qff_A:qff_T:=qff_G qfb_A qfd_A qfe_A
def qff_W (f:qff_T):ArS [.c .p,.c (.i .i64),.agg [(.i .i64),(.i .i64),(.i .i64),.b,.b,.b,(.i .u64),(.i .i64),(.i .u64),(.i .i64),(.i .i64),(.i .i64),(.i .i64)]] EnR:=fun p0 p1 p2 p3 p4 p5 p6 p7 p8 p9 p10 p11 p12 p13 p14 K _Kp=>f p0 p1 p2 p3 p4 p5 p6 p7 p8 p9 p10 p11 p12 p13 p14 (fun r0 r1=>K (.tuple #[(.int .u64 r0),(.int .i64 r1)]))
abbrev qfg_T:=Option Addr→(AH→Prop)→AP
def qfg_A:qfg_T:=fun _ _ _=>False
def qfg_W (f:qfg_T):ArS [.c .p] EnR:=fun p0 K _Kp=>f p0 (K (.tuple #[]))
abbrev qfh_T:=Option Addr→Int→(AH→Prop)→AP
def qfh_A:qfh_T:=fun _ _ _ _=>False
def qfh_W (f:qfh_T):ArS [.c .p,.c (.i .i64)] EnR:=fun p0 p1 K _Kp=>f p0 p1 (K (.tuple #[]))
abbrev qfi_T:=Option Addr→Int→Int→Int→Int→Bool→Bool→Bool→Int→Int→Int→Int→Int→Int→Int→(Int→Int→AH→Prop)→AP
def qfi_G (f_qcg:qcg_T) (f_qfg:qfg_T) (f_qfh:qfh_T) (p0:Option Addr) (p1:Int) (p2:Int) (_p3:Int) (_p4:Int) (_p5:Bool) (_p6:Bool) (_p7:Bool) (_p8:Int) (_p9:Int) (_p10:Int) (p11:Int) (_p12:Int) (_p13:Int) (_p14:Int) (Q:Int→Int→AH→Prop) (h:AH):Prop:=
(∃ R1:AH→Prop,(∀ h15,R1 h15→
(Q (0:Int) (0:Int) h15))∧
(bsel (p2==(12:Int))
(onSome p0 fun a2=>
(aM (Addr.add a2 3) h fun mp3=>
(aLk h mp3 .i64 p1 fun o4=>
(∃ pt5:Option Addr,((o4.getD (.pointer none)):Value)=(.pointer pt5)∧
(onSome pt5 fun a6=>
(aI .i64 a6 h fun n7=>
(f_qcg p0 p1 n7 p11 (fun n8 n9 h10=>
(Q (IntKind.wrap .u64 n8) n9 h10)) h)))))))
(bsel (p2==(14:Int))
(onSome p0 fun a11=>
(aP (Addr.add a11 1) h fun pt12=>
(f_qfg pt12 (fun h13=>
(R1 h13)) h)))
(bsel (p1==(0:Int))
(Q (0:Int) (10:Int) h)
(f_qfh p0 p1 (fun h14=>
(R1 h14)) h)))))
def qfi_A:qfi_T:=qfi_G qcg_A qfg_A qfh_A
def qfi_W (f:qfi_T):ArS [.c .p,.c (.i .i64),.agg [(.i .i64),(.i .i64),(.i .i64),.b,.b,.b,(.i .u64),(.i .i64),(.i .u64),(.i .i64),(.i .i64),(.i .i64),(.i .i64)]] EnR:=fun p0 p1 p2 p3 p4 p5 p6 p7 p8 p9 p10 p11 p12 p13 p14 K _Kp=>f p0 p1 p2 p3 p4 p5 p6 p7 p8 p9 p10 p11 p12 p13 p14 (fun r0 r1=>K (.tuple #[(.int .u64 r0),(.int .i64 r1)]))
abbrev qfj_T:=Int→Int→Int→Int→Int→Int→Bool→Int→Int→Int→Int→Int→Int→Int→(Int→Int→Int→Int→Int→Int→Bool→Int→Int→Int→Int→Int→Int→Int→AH→Prop)→AP
def qfj_A (p0:Int) (p1:Int) (p2:Int) (p3:Int) (p4:Int) (p5:Int) (p6:Bool) (p7:Int) (p8:Int) (p9:Int) (p10:Int) (p11:Int) (p12:Int) (p13:Int) (Q:Int→Int→Int→Int→Int→Int→Bool→Int→Int→Int→Int→Int→Int→Int→AH→Prop) (h:AH):Prop:=
(bsel p6
(Q p0 p1 p2 p3 p4 p5 p6 p7 p8 p9 p10 p11 p12 (11:Int) h)
(Q p0 p1 p2 p3 p4 p13 p6 p7 p8 p9 p10 p11 p12 (0:Int) h))
def qfj_W (f:qfj_T):ArS [.agg [(.i .u64),(.i .u64),(.i .u64),(.i .u64),(.i .i64),(.i .u64),.b,(.i .u64),(.i .i64),(.i .u64),(.i .u64),(.i .u64),(.i .u64)],.c (.i .u64)] EnR:=fun p0 p1 p2 p3 p4 p5 p6 p7 p8 p9 p10 p11 p12 p13 K _Kp=>f p0 p1 p2 p3 p4 p5 p6 p7 p8 p9 p10 p11 p12 p13 (fun r0 r1 r2 r3 r4 r5 r6 r7 r8 r9 r10 r11 r12 r13=>K (.tuple #[(.agg #[(.int .u64 r0),(.int .u64 r1),(.int .u64 r2),(.int .u64 r3),(.int .i64 r4),(.int .u64 r5),(.bool r6),(.int .u64 r7),(.int .i64 r8),(.int .u64 r9),(.int .u64 r10),(.int .u64 r11),(.int .u64 r12)]),(.int .i64 r13)]))
abbrev qfk_T:=Int→Int→Int→Int→Int→Int→Bool→Int→Int→Int→Int→Int→Int→(Int→Int→Int→Int→Int→Int→Bool→Int→Int→Int→Int→Int→Int→Int→AH→Prop)→AP
def qfk_A (p0:Int) (p1:Int) (p2:Int) (p3:Int) (p4:Int) (p5:Int) (p6:Bool) (p7:Int) (p8:Int) (p9:Int) (p10:Int) (p11:Int) (p12:Int) (Q:Int→Int→Int→Int→Int→Int→Bool→Int→Int→Int→Int→Int→Int→Int→AH→Prop) (h:AH):Prop:=
(bsel (!p6)
(Q p0 p1 p2 p3 p4 p5 p6 p7 p8 p9 p10 p11 p12 (5:Int) h)
(Q p9 p10 p11 p12 p4 p5 (false:Bool) (0:Int) (0:Int) (0:Int) (0:Int) (0:Int) (0:Int) (0:Int) h))
def qfk_W (f:qfk_T):ArS [.agg [(.i .u64),(.i .u64),(.i .u64),(.i .u64),(.i .i64),(.i .u64),.b,(.i .u64),(.i .i64),(.i .u64),(.i .u64),(.i .u64),(.i .u64)]] EnR:=fun p0 p1 p2 p3 p4 p5 p6 p7 p8 p9 p10 p11 p12 K _Kp=>f p0 p1 p2 p3 p4 p5 p6 p7 p8 p9 p10 p11 p12 (fun r0 r1 r2 r3 r4 r5 r6 r7 r8 r9 r10 r11 r12 r13=>K (.tuple #[(.agg #[(.int .u64 r0),(.int .u64 r1),(.int .u64 r2),(.int .u64 r3),(.int .i64 r4),(.int .u64 r5),(.bool r6),(.int .u64 r7),(.int .i64 r8),(.int .u64 r9),(.int .u64 r10),(.int .u64 r11),(.int .u64 r12)]),(.int .i64 r13)]))
abbrev qfl_T:=Int→Int→Int→Int→Int→Int→Bool→Int→Int→Int→Int→Int→Int→Int→Int→Int→Int→(Int→Int→Int→Int→Int→Int→Bool→Int→Int→Int→Int→Int→Int→Int→AH→Prop)→AP
def qfl_A:qfl_T:=fun _ _ _ _ _ _ _ _ _ _ _ _ _ _ _ _ _ _ _=>False
def qfl_W (f:qfl_T):ArS [.agg [(.i .u64),(.i .u64),(.i .u64),(.i .u64),(.i .i64),(.i .u64),.b,(.i .u64),(.i .i64),(.i .u64),(.i .u64),(.i .u64),(.i .u64)],.c (.i .i64),.c (.i .i64),.c (.i .i64),.c (.i .i64)] EnR:=fun p0 p1 p2 p3 p4 p5 p6 p7 p8 p9 p10 p11 p12 p13 p14 p15 p16 K _Kp=>f p0 p1 p2 p3 p4 p5 p6 p7 p8 p9 p10 p11 p12 p13 p14 p15 p16 (fun r0 r1 r2 r3 r4 r5 r6 r7 r8 r9 r10 r11 r12 r13=>K (.tuple #[(.agg #[(.int .u64 r0),(.int .u64 r1),(.int .u64 r2),(.int .u64 r3),(.int .i64 r4),(.int .u64 r5),(.bool r6),(.int .u64 r7),(.int .i64 r8),(.int .u64 r9),(.int .u64 r10),(.int .u64 r11),(.int .u64 r12)]),(.int .i64 r13)]))
abbrev qfm_T:=Sl→(Bool→AH→Prop)→AP
def qfm_A (p0:Sl) (Q:Bool→AH→Prop) (h:AH):Prop:=
(∃ I1:Int→Nat→AH→Prop,(∃ m2,I1 (0:Int) m2 h)∧∀ x5:Int,∀ m2 h4,I1 x5 m2 h4→
(bsel (decide (x5<(Int.ofNat p0.len)))
(onSome p0.a fun a6=>
(inB x5 p0.len
(aI .i64 (Addr.add a6 (Int.toNat x5*1)) h4 fun n7=>
(bsel (decide (n7<(0:Int)))
(Q false h4)
(bsel (decide (n7≥(4:Int)))
(Q false h4)
(∃ m3,m3<m2∧I1 (IntKind.wrap .i64 (x5+(1:Int))) m3 h4))))))
(Q true h4)))
def qfm_W (f:qfm_T):ArS [.c .s] EnR:=fun p0 K _Kp=>f p0 (fun r0=>K (.bool r0))
abbrev qfn_T:=Int→Int→Int→Int→Int→Int→Bool→Int→Int→Int→Int→Int→Int→Int→Int→(Int→Int→Int→Int→Int→Int→Bool→Int→Int→Int→Int→Int→Int→Int→AH→Prop)→AP
def qfn_G (f_qfm:qfm_T) (p0:Int) (p1:Int) (p2:Int) (p3:Int) (p4:Int) (p5:Int) (p6:Bool) (p7:Int) (p8:Int) (p9:Int) (p10:Int) (p11:Int) (p12:Int) (p13:Int) (p14:Int) (Q:Int→Int→Int→Int→Int→Int→Bool→Int→Int→Int→Int→Int→Int→Int→AH→Prop) (h:AH):Prop:=
(newA h (.cells #[(.int .u64 p0),(.int .u64 p1),(.int .u64 p2),(.int .u64 p3),(.int .i64 p4),(.int .u64 p5),(.bool p6),(.int .u64 p7),(.int .i64 p8),(.int .u64 p9),(.int .u64 p10),(.int .u64 p11),(.int .u64 p12)] 47) fun b1 h2=>
(newA h2 (.cells #[(.int .i64 p13)] 3) fun b3 h4=>
(f_qfm (Sl.mk (some (Addr.mk b3 0 none)) 1 1) (fun b5 h6=>
(bsel (!b5)
(aI .u64 (Addr.mk b1 0 none) h6 fun n7=>
(aI .u64 (Addr.add (Addr.mk b1 0 none) 1) h6 fun n8=>
(aI .u64 (Addr.add (Addr.mk b1 0 none) 2) h6 fun n9=>
(aI .u64 (Addr.add (Addr.mk b1 0 none) 3) h6 fun n10=>
(aI .i64 (Addr.add (Addr.mk b1 0 none) 4) h6 fun n11=>
(aI .u64 (Addr.add (Addr.mk b1 0 none) 5) h6 fun n12=>
(aB (Addr.add (Addr.mk b1 0 none) 6) h6 fun b13=>
(aI .u64 (Addr.add (Addr.mk b1 0 none) 7) h6 fun n14=>
(aI .i64 (Addr.add (Addr.mk b1 0 none) 8) h6 fun n15=>
(aI .u64 (Addr.add (Addr.mk b1 0 none) 9) h6 fun n16=>
(aI .u64 (Addr.add (Addr.mk b1 0 none) 10) h6 fun n17=>
(aI .u64 (Addr.add (Addr.mk b1 0 none) 11) h6 fun n18=>
(aI .u64 (Addr.add (Addr.mk b1 0 none) 12) h6 fun n19=>
(Q n7 n8 n9 n10 n11 n12 b13 n14 n15 n16 n17 n18 n19 (1:Int) h6))))))))))))))
(inB p13 4
(aC (Addr.add (Addr.mk b1 0 none) (Int.toNat p13*1)) (.int .u64 p14) h6 fun h20=>
(aI .u64 (Addr.mk b1 0 none) h20 fun n21=>
(aI .u64 (Addr.add (Addr.mk b1 0 none) 1) h20 fun n22=>
(aI .u64 (Addr.add (Addr.mk b1 0 none) 2) h20 fun n23=>
(aI .u64 (Addr.add (Addr.mk b1 0 none) 3) h20 fun n24=>
(aI .i64 (Addr.add (Addr.mk b1 0 none) 4) h20 fun n25=>
(aI .u64 (Addr.add (Addr.mk b1 0 none) 5) h20 fun n26=>
(aB (Addr.add (Addr.mk b1 0 none) 6) h20 fun b27=>
(aI .u64 (Addr.add (Addr.mk b1 0 none) 7) h20 fun n28=>
(aI .i64 (Addr.add (Addr.mk b1 0 none) 8) h20 fun n29=>
(aI .u64 (Addr.add (Addr.mk b1 0 none) 9) h20 fun n30=>
(aI .u64 (Addr.add (Addr.mk b1 0 none) 10) h20 fun n31=>
(aI .u64 (Addr.add (Addr.mk b1 0 none) 11) h20 fun n32=>
(aI .u64 (Addr.add (Addr.mk b1 0 none) 12) h20 fun n33=>
(Q n21 n22 n23 n24 n25 n26 b27 n28 n29 n30 n31 n32 n33 (0:Int) h20)))))))))))))))))) h4)))
def qfn_A:qfn_T:=qfn_G qfm_A
def qfn_W (f:qfn_T):ArS [.agg [(.i .u64),(.i .u64),(.i .u64),(.i .u64),(.i .i64),(.i .u64),.b,(.i .u64),(.i .i64),(.i .u64),(.i .u64),(.i .u64),(.i .u64)],.c (.i .i64),.c (.i .u64)] EnR:=fun p0 p1 p2 p3 p4 p5 p6 p7 p8 p9 p10 p11 p12 p13 p14 K _Kp=>f p0 p1 p2 p3 p4 p5 p6 p7 p8 p9 p10 p11 p12 p13 p14 (fun r0 r1 r2 r3 r4 r5 r6 r7 r8 r9 r10 r11 r12 r13=>K (.tuple #[(.agg #[(.int .u64 r0),(.int .u64 r1),(.int .u64 r2),(.int .u64 r3),(.int .i64 r4),(.int .u64 r5),(.bool r6),(.int .u64 r7),(.int .i64 r8),(.int .u64 r9),(.int .u64 r10),(.int .u64 r11),(.int .u64 r12)]),(.int .i64 r13)]))
abbrev qfo_T:=Option Addr→Int→Int→Int→Int→Bool→Bool→Bool→Int→Int→Int→Int→Int→Int→Int→(Int→Int→AH→Prop)→AP
def qfo_G (f_qfj:qfj_T) (f_qfk:qfk_T) (f_qfl:qfl_T) (f_qfn:qfn_T) (p0:Option Addr) (p1:Int) (p2:Int) (_p3:Int) (_p4:Int) (_p5:Bool) (_p6:Bool) (_p7:Bool) (p8:Int) (_p9:Int) (p10:Int) (p11:Int) (p12:Int) (p13:Int) (p14:Int) (Q:Int→Int→AH→Prop) (h:AH):Prop:=
(onSome p0 fun a1=>
(aM (Addr.add a1 3) h fun mp2=>
(aLk h mp2 .i64 p1 fun o3=>
(∃ pt4:Option Addr,((o3.getD (.pointer none)):Value)=(.pointer pt4)∧
(∃ R5:Int→AH→Prop,(∀ x178:Int,∀ h179,R5 x178 h179→
(Q (0:Int) x178 h179))∧
(bsel (p2==(10:Int))
(onSome pt4 fun a6=>
(aI .u64 (Addr.add a6 3) h fun n7=>
(aI .u64 (Addr.add (Addr.add a6 3) 1) h fun n8=>
(aI .u64 (Addr.add (Addr.add a6 3) 2) h fun n9=>
(aI .u64 (Addr.add (Addr.add a6 3) 3) h fun n10=>
(aI .i64 (Addr.add (Addr.add a6 3) 4) h fun n11=>
(aI .u64 (Addr.add (Addr.add a6 3) 5) h fun n12=>
(aB (Addr.add (Addr.add a6 3) 6) h fun b13=>
(aI .u64 (Addr.add (Addr.add a6 3) 7) h fun n14=>
(aI .i64 (Addr.add (Addr.add a6 3) 8) h fun n15=>
(aI .u64 (Addr.add (Addr.add a6 3) 9) h fun n16=>
(aI .u64 (Addr.add (Addr.add a6 3) 10) h fun n17=>
(aI .u64 (Addr.add (Addr.add a6 3) 11) h fun n18=>
(aI .u64 (Addr.add (Addr.add a6 3) 12) h fun n19=>
(f_qfj n7 n8 n9 n10 n11 n12 b13 n14 n15 n16 n17 n18 n19 p8 (fun n20 n21 n22 n23 n24 n25 b26 n27 n28 n29 n30 n31 n32 n33 h34=>
(onSome pt4 fun a35=>
(aC (Addr.add a35 3) (.int .u64 n20) h34 fun h36=>
(aC (Addr.add (Addr.add a35 3) 1) (.int .u64 n21) h36 fun h37=>
(aC (Addr.add (Addr.add a35 3) 2) (.int .u64 n22) h37 fun h38=>
(aC (Addr.add (Addr.add a35 3) 3) (.int .u64 n23) h38 fun h39=>
(aC (Addr.add (Addr.add a35 3) 4) (.int .i64 n24) h39 fun h40=>
(aC (Addr.add (Addr.add a35 3) 5) (.int .u64 n25) h40 fun h41=>
(aC (Addr.add (Addr.add a35 3) 6) (.bool b26) h41 fun h42=>
(aC (Addr.add (Addr.add a35 3) 7) (.int .u64 n27) h42 fun h43=>
(aC (Addr.add (Addr.add a35 3) 8) (.int .i64 n28) h43 fun h44=>
(aC (Addr.add (Addr.add a35 3) 9) (.int .u64 n29) h44 fun h45=>
(aC (Addr.add (Addr.add a35 3) 10) (.int .u64 n30) h45 fun h46=>
(aC (Addr.add (Addr.add a35 3) 11) (.int .u64 n31) h46 fun h47=>
(aC (Addr.add (Addr.add a35 3) 12) (.int .u64 n32) h47 fun h48=>
(R5 n33 h48)))))))))))))))) h)))))))))))))))
(bsel (p2==(11:Int))
(onSome pt4 fun a49=>
(aI .u64 (Addr.add a49 3) h fun n50=>
(aI .u64 (Addr.add (Addr.add a49 3) 1) h fun n51=>
(aI .u64 (Addr.add (Addr.add a49 3) 2) h fun n52=>
(aI .u64 (Addr.add (Addr.add a49 3) 3) h fun n53=>
(aI .i64 (Addr.add (Addr.add a49 3) 4) h fun n54=>
(aI .u64 (Addr.add (Addr.add a49 3) 5) h fun n55=>
(aB (Addr.add (Addr.add a49 3) 6) h fun b56=>
(aI .u64 (Addr.add (Addr.add a49 3) 7) h fun n57=>
(aI .i64 (Addr.add (Addr.add a49 3) 8) h fun n58=>
(aI .u64 (Addr.add (Addr.add a49 3) 9) h fun n59=>
(aI .u64 (Addr.add (Addr.add a49 3) 10) h fun n60=>
(aI .u64 (Addr.add (Addr.add a49 3) 11) h fun n61=>
(aI .u64 (Addr.add (Addr.add a49 3) 12) h fun n62=>
(f_qfk n50 n51 n52 n53 n54 n55 b56 n57 n58 n59 n60 n61 n62 (fun n63 n64 n65 n66 n67 n68 b69 n70 n71 n72 n73 n74 n75 n76 h77=>
(onSome pt4 fun a78=>
(aC (Addr.add a78 3) (.int .u64 n63) h77 fun h79=>
(aC (Addr.add (Addr.add a78 3) 1) (.int .u64 n64) h79 fun h80=>
(aC (Addr.add (Addr.add a78 3) 2) (.int .u64 n65) h80 fun h81=>
(aC (Addr.add (Addr.add a78 3) 3) (.int .u64 n66) h81 fun h82=>
(aC (Addr.add (Addr.add a78 3) 4) (.int .i64 n67) h82 fun h83=>
(aC (Addr.add (Addr.add a78 3) 5) (.int .u64 n68) h83 fun h84=>
(aC (Addr.add (Addr.add a78 3) 6) (.bool b69) h84 fun h85=>
(aC (Addr.add (Addr.add a78 3) 7) (.int .u64 n70) h85 fun h86=>
(aC (Addr.add (Addr.add a78 3) 8) (.int .i64 n71) h86 fun h87=>
(aC (Addr.add (Addr.add a78 3) 9) (.int .u64 n72) h87 fun h88=>
(aC (Addr.add (Addr.add a78 3) 10) (.int .u64 n73) h88 fun h89=>
(aC (Addr.add (Addr.add a78 3) 11) (.int .u64 n74) h89 fun h90=>
(aC (Addr.add (Addr.add a78 3) 12) (.int .u64 n75) h90 fun h91=>
(R5 n76 h91)))))))))))))))) h)))))))))))))))
(bsel (p2==(15:Int))
(onSome pt4 fun a92=>
(aI .u64 (Addr.add a92 3) h fun n93=>
(aI .u64 (Addr.add (Addr.add a92 3) 1) h fun n94=>
(aI .u64 (Addr.add (Addr.add a92 3) 2) h fun n95=>
(aI .u64 (Addr.add (Addr.add a92 3) 3) h fun n96=>
(aI .i64 (Addr.add (Addr.add a92 3) 4) h fun n97=>
(aI .u64 (Addr.add (Addr.add a92 3) 5) h fun n98=>
(aB (Addr.add (Addr.add a92 3) 6) h fun b99=>
(aI .u64 (Addr.add (Addr.add a92 3) 7) h fun n100=>
(aI .i64 (Addr.add (Addr.add a92 3) 8) h fun n101=>
(aI .u64 (Addr.add (Addr.add a92 3) 9) h fun n102=>
(aI .u64 (Addr.add (Addr.add a92 3) 10) h fun n103=>
(aI .u64 (Addr.add (Addr.add a92 3) 11) h fun n104=>
(aI .u64 (Addr.add (Addr.add a92 3) 12) h fun n105=>
(f_qfl n93 n94 n95 n96 n97 n98 b99 n100 n101 n102 n103 n104 n105 p11 p12 p13 p14 (fun n106 n107 n108 n109 n110 n111 b112 n113 n114 n115 n116 n117 n118 n119 h120=>
(onSome pt4 fun a121=>
(aC (Addr.add a121 3) (.int .u64 n106) h120 fun h122=>
(aC (Addr.add (Addr.add a121 3) 1) (.int .u64 n107) h122 fun h123=>
(aC (Addr.add (Addr.add a121 3) 2) (.int .u64 n108) h123 fun h124=>
(aC (Addr.add (Addr.add a121 3) 3) (.int .u64 n109) h124 fun h125=>
(aC (Addr.add (Addr.add a121 3) 4) (.int .i64 n110) h125 fun h126=>
(aC (Addr.add (Addr.add a121 3) 5) (.int .u64 n111) h126 fun h127=>
(aC (Addr.add (Addr.add a121 3) 6) (.bool b112) h127 fun h128=>
(aC (Addr.add (Addr.add a121 3) 7) (.int .u64 n113) h128 fun h129=>
(aC (Addr.add (Addr.add a121 3) 8) (.int .i64 n114) h129 fun h130=>
(aC (Addr.add (Addr.add a121 3) 9) (.int .u64 n115) h130 fun h131=>
(aC (Addr.add (Addr.add a121 3) 10) (.int .u64 n116) h131 fun h132=>
(aC (Addr.add (Addr.add a121 3) 11) (.int .u64 n117) h132 fun h133=>
(aC (Addr.add (Addr.add a121 3) 12) (.int .u64 n118) h133 fun h134=>
(R5 n119 h134)))))))))))))))) h)))))))))))))))
(onSome pt4 fun a135=>
(aI .u64 (Addr.add a135 3) h fun n136=>
(aI .u64 (Addr.add (Addr.add a135 3) 1) h fun n137=>
(aI .u64 (Addr.add (Addr.add a135 3) 2) h fun n138=>
(aI .u64 (Addr.add (Addr.add a135 3) 3) h fun n139=>
(aI .i64 (Addr.add (Addr.add a135 3) 4) h fun n140=>
(aI .u64 (Addr.add (Addr.add a135 3) 5) h fun n141=>
(aB (Addr.add (Addr.add a135 3) 6) h fun b142=>
(aI .u64 (Addr.add (Addr.add a135 3) 7) h fun n143=>
(aI .i64 (Addr.add (Addr.add a135 3) 8) h fun n144=>
(aI .u64 (Addr.add (Addr.add a135 3) 9) h fun n145=>
(aI .u64 (Addr.add (Addr.add a135 3) 10) h fun n146=>
(aI .u64 (Addr.add (Addr.add a135 3) 11) h fun n147=>
(aI .u64 (Addr.add (Addr.add a135 3) 12) h fun n148=>
(f_qfn n136 n137 n138 n139 n140 n141 b142 n143 n144 n145 n146 n147 n148 p11 p10 (fun n149 n150 n151 n152 n153 n154 b155 n156 n157 n158 n159 n160 n161 n162 h163=>
(onSome pt4 fun a164=>
(aC (Addr.add a164 3) (.int .u64 n149) h163 fun h165=>
(aC (Addr.add (Addr.add a164 3) 1) (.int .u64 n150) h165 fun h166=>
(aC (Addr.add (Addr.add a164 3) 2) (.int .u64 n151) h166 fun h167=>
(aC (Addr.add (Addr.add a164 3) 3) (.int .u64 n152) h167 fun h168=>
(aC (Addr.add (Addr.add a164 3) 4) (.int .i64 n153) h168 fun h169=>
(aC (Addr.add (Addr.add a164 3) 5) (.int .u64 n154) h169 fun h170=>
(aC (Addr.add (Addr.add a164 3) 6) (.bool b155) h170 fun h171=>
(aC (Addr.add (Addr.add a164 3) 7) (.int .u64 n156) h171 fun h172=>
(aC (Addr.add (Addr.add a164 3) 8) (.int .i64 n157) h172 fun h173=>
(aC (Addr.add (Addr.add a164 3) 9) (.int .u64 n158) h173 fun h174=>
(aC (Addr.add (Addr.add a164 3) 10) (.int .u64 n159) h174 fun h175=>
(aC (Addr.add (Addr.add a164 3) 11) (.int .u64 n160) h175 fun h176=>
(aC (Addr.add (Addr.add a164 3) 12) (.int .u64 n161) h176 fun h177=>
(R5 n162 h177)))))))))))))))) h)))))))))))))))))))))))
def qfo_A:qfo_T:=qfo_G qfj_A qfk_A qfl_A qfn_A
def qfo_W (f:qfo_T):ArS [.c .p,.c (.i .i64),.agg [(.i .i64),(.i .i64),(.i .i64),.b,.b,.b,(.i .u64),(.i .i64),(.i .u64),(.i .i64),(.i .i64),(.i .i64),(.i .i64)]] EnR:=fun p0 p1 p2 p3 p4 p5 p6 p7 p8 p9 p10 p11 p12 p13 p14 K _Kp=>f p0 p1 p2 p3 p4 p5 p6 p7 p8 p9 p10 p11 p12 p13 p14 (fun r0 r1=>K (.tuple #[(.int .u64 r0),(.int .i64 r1)]))
abbrev qfp_T:=Option Addr→Int→Int→Int→Int→Int→Int→(Int→Int→Int→Int→Int→Bool→AH→Prop)→AP
def qfp_G (f_qci:qci_T) (f_qcr:qcr_T) (f_qee:qee_T) (f_qeu:qeu_T) (f_qex:qex_T) (f_qfc:qfc_T) (f_qff:qff_T) (f_qfi:qfi_T) (f_qfo:qfo_T) (p0:Option Addr) (p1:Int) (p2:Int) (p3:Int) (p4:Int) (p5:Int) (p6:Int) (Q:Int→Int→Int→Int→Int→Bool→AH→Prop) (h:AH):Prop:=
(onSome p0 fun a1=>
(aP (Addr.add a1 1) h fun pt2=>
(bsel pt2.isNone
(Q (0:Int) (0:Int) (12:Int) (0:Int) (0:Int) (false:Bool) h)
(onSome p0 fun a3=>
(aP (Addr.add a3 1) h fun pt4=>
(f_qci pt4 (fun n5 _ h7=>
(f_qcr p1 p2 p3 p4 p5 p6 (fun n8 n9 n10 b11 b12 b13 n14 n15 n16 n17 n18 n19 n20 n21 h22=>
(bsel (n21 != (0:Int))
(Q n5 (0:Int) n21 (0:Int) (0:Int) (false:Bool) h22)
(∃ R23:Int→Int→Int→Int→Int→Bool→AH→Prop,(∀ c38:Int,∀ c39:Int,∀ c40:Int,∀ c41:Int,∀ c42:Int,∀ c43:Bool,∀ h44,R23 c38 c39 c40 c41 c42 c43 h44→
(∃ R45:Int→Int→AH→Prop,(∀ c73:Int,∀ c74:Int,∀ h75,R45 c73 c74 h75→
(Q n5 c73 c74 (0:Int) (0:Int) (false:Bool) h75))∧
(∃ R46:Bool→AH→Prop,(∀ b47:Bool,∀ h48,R46 b47 h48→
(bsel b47
(f_qeu p0 n5 n8 n9 n10 b11 b12 b13 n14 n15 n16 n17 n18 n19 n20 (fun n49 n50 h51=>
(R45 n49 n50 h51)) h48)
(bsel (n8==(6:Int))
(f_qex p0 n5 n8 n9 n10 b11 b12 b13 n14 n15 n16 n17 n18 n19 n20 (fun n52 n53 h54=>
(R45 n52 n53 h54)) h48)
(bsel (n8==(7:Int))
(f_qfc p0 n5 n8 n9 n10 b11 b12 b13 n14 n15 n16 n17 n18 n19 n20 (fun n55 n56 h57=>
(R45 n55 n56 h57)) h48)
(∃ R58:Bool→AH→Prop,(∀ b59:Bool,∀ h60,R58 b59 h60→
(bsel b59
(f_qff p0 n5 n8 n9 n10 b11 b12 b13 n14 n15 n16 n17 n18 n19 n20 (fun n61 n62 h63=>
(R45 n61 n62 h63)) h60)
(∃ R64:Bool→AH→Prop,(∀ b65:Bool,∀ h66,R64 b65 h66→
(bsel b65
(f_qfi p0 n5 n8 n9 n10 b11 b12 b13 n14 n15 n16 n17 n18 n19 n20 (fun n67 n68 h69=>
(R45 n67 n68 h69)) h66)
(f_qfo p0 n5 n8 n9 n10 b11 b12 b13 n14 n15 n16 n17 n18 n19 n20 (fun n70 n71 h72=>
(R45 n70 n71 h72)) h66)))∧
(bsel (n8==(12:Int))
(R64 (n8==(12:Int)) h60)
(bsel (n8==(13:Int))
(R64 (n8==(13:Int)) h60)
(R64 (n8==(14:Int)) h60))))))∧
(bsel (n8==(8:Int))
(R58 (n8==(8:Int)) h48)
(R58 (n8==(9:Int)) h48)))))))∧
(bsel (n8==(1:Int))
(R46 (n8==(1:Int)) h44)
(bsel (n8==(2:Int))
(R46 (n8==(2:Int)) h44)
(R46 (n8==(3:Int)) h44))))))∧
(bsel (n8==(4:Int))
(f_qee p0 n5 n8 n9 n10 b11 b12 b13 n14 n15 n16 n17 n18 n19 n20 (fun n24 n25 n26 n27 n28 b29 h30=>
(Q n24 n25 n26 n27 n28 b29 h30)) h22)
(bsel (n8==(5:Int))
(f_qee p0 n5 n8 n9 n10 b11 b12 b13 n14 n15 n16 n17 n18 n19 n20 (fun n31 n32 n33 n34 n35 b36 h37=>
(Q n31 n32 n33 n34 n35 b36 h37)) h22)
(R23 (0:Int) (0:Int) (0:Int) (0:Int) (0:Int) false h22)))))) h7)) h))))))
def qfp_A:qfp_T:=qfp_G qci_A qcr_A qee_A qeu_A qex_A qfc_A qff_A qfi_A qfo_A
def qfp_W (f:qfp_T):ArS [.c .p,.agg [(.i .u64),(.i .u64),(.i .u64),(.i .u64),(.i .u64),(.i .u64)]] EnR:=fun p0 p1 p2 p3 p4 p5 p6 K _Kp=>f p0 p1 p2 p3 p4 p5 p6 (fun r0 r1 r2 r3 r4 r5=>K (.agg #[(.int .i64 r0),(.int .u64 r1),(.int .i64 r2),(.int .u64 r3),(.int .i64 r4),(.bool r5)]))
abbrev qfq_T:=Option Addr→(Int→AH→Prop)→AP
def qfq_G (f_qci:qci_T) (p0:Option Addr) (Q:Int→AH→Prop) (h:AH):Prop:=
(onSome p0 fun a1=>
(aP (Addr.add a1 1) h fun pt2=>
(bsel pt2.isNone
(Q (0:Int) h)
(onSome p0 fun a3=>
(aP (Addr.add a3 1) h fun pt4=>
(f_qci pt4 (fun n5 _ h7=>
(Q n5 h7)) h))))))
def qfq_A:qfq_T:=qfq_G qci_A
def qfq_W (f:qfq_T):ArS [.c .p] EnR:=fun p0 K _Kp=>f p0 (fun r0=>K (.int .i64 r0))
abbrev qfr_T:=(Bool→AH→Prop)→AP
def qfr_G (f_qac:qac_T) (f_qch:qch_T) (f_qfp:qfp_T) (f_qfq:qfq_T) (Q:Bool→AH→Prop) (h:AH):Prop:=
(f_qac (40:Int) (3:Int) (2:Int) Sl.nil (fun n1 n2 n3 n4 s5 n6 s7 h8=>
(f_qch n1 n2 n3 n4 s5 n6 s7 (fun pt9 n10 h11=>
(∃ R12:AH→Prop,(∀ h13,R12 h13→
(f_qfp pt9 (4:Int) (0:Int) (8:Int) (0:Int) (0:Int) (0:Int) (fun _ _ n16 _ n18 b19 h20=>
(f_qfp pt9 (1:Int) (0:Int) (4:Int) (1:Int) (0:Int) (0:Int) (fun _ _ n23 _ _ _ h27=>
(f_qfp pt9 (5:Int) (8:Int) (8:Int) (5:Int) (0:Int) (0:Int) (fun _ _ n30 _ _ _ h34=>
(f_qfp pt9 (4:Int) (8:Int) (8:Int) (0:Int) (0:Int) (0:Int) (fun _ n36 _ _ _ _ h41=>
(bsel (n16==(9:Int))
(bsel (n18==(4:Int))
(bsel (!b19)
(bsel (n23==(0:Int))
(bsel (n30==(0:Int))
(bsel (n36==(5:Int))
(f_qfq pt9 (fun n42 h43=>
(Q (n42==(0:Int)) h43)) h41)
(Q false h41))
(Q false h41))
(Q false h41))
(Q false h41))
(Q false h41))
(Q false h41))) h34)) h27)) h20)) h13))∧
(bsel (n10 != (0:Int))
(Q false h11)
(bsel pt9.isNone
(Q false h11)
(R12 h11))))) h8)) h)
def qfr_A:qfr_T:=qfr_G qac_A qch_A qfp_A qfq_A
def qfr_W (f:qfr_T):ArS [] EnR:=fun  K _Kp=>f  (fun r0=>K (.bool r0))
abbrev qfs_T:=Option Addr→Int→(Int→Int→Int→Int→Bool→Bool→AH→Prop)→AP
def qfs_G (f_qav:qav_T) (p0:Option Addr) (p1:Int) (Q:Int→Int→Int→Int→Bool→Bool→AH→Prop) (h:AH):Prop:=
(f_qav p0 p1 (fun pt1 b2 h3=>
(bsel b2
(onSome pt1 fun a4=>
(aI .i64 a4 h3 fun n5=>
(aI .i64 (Addr.add a4 1) h3 fun n6=>
(aI .i64 (Addr.add a4 2) h3 fun n7=>
(aI .i64 (Addr.add a4 3) h3 fun n8=>
(aB (Addr.add a4 4) h3 fun b9=>
(Q n5 n6 n7 n8 b9 true h3)))))))
(Q (0:Int) (0:Int) (0:Int) (0:Int) (false:Bool) false h3))) h)
def qfs_A:qfs_T:=qfs_G qav_A
def qfs_W (f:qfs_T):ArS [.c .p,.c (.i .i64)] EnR:=fun p0 p1 K _Kp=>f p0 p1 (fun r0 r1 r2 r3 r4 r5=>K (.tuple #[(.agg #[(.int .i64 r0),(.int .i64 r1),(.int .i64 r2),(.int .i64 r3),(.bool r4)]),(.bool r5)]))
abbrev qft_T:=Option Addr→Int→(Int→Int→Int→Int→Int→Int→Bool→Int→Int→Int→Int→Int→Int→Int→Int→Int→Int→Int→Bool→AH→Prop)→AP
def qft_G (f_qfs:qfs_T) (f_qaw:qaw_T) (p0:Option Addr) (p1:Int) (Q:Int→Int→Int→Int→Int→Int→Bool→Int→Int→Int→Int→Int→Int→Int→Int→Int→Int→Int→Bool→AH→Prop) (h:AH):Prop:=
(onSome p0 fun a1=>
(aM (Addr.add a1 3) h fun mp2=>
(aLk h mp2 .i64 p1 fun o3=>
(∃ pt4:Option Addr,((o3.getD (.pointer none)):Value)=(.pointer pt4)∧
(bsel pt4.isNone
(Q (0:Int) (0:Int) (0:Int) (0:Int) (0:Int) (0:Int) (false:Bool) (0:Int) (0:Int) (0:Int) (0:Int) (0:Int) (0:Int) (0:Int) (0:Int) (0:Int) (0:Int) (0:Int) false h)
(onSome p0 fun a5=>
(onSome pt4 fun a6=>
(aP a5 h fun pt7=>
(onSome pt7 fun a8=>
(aP a8 h fun pt9=>
(onSome pt9 fun a10=>
(aP (Addr.add a10 2) h fun pt11=>
(aI .i64 a6 h fun n12=>
(f_qfs pt11 n12 (fun _ n14 n15 _ _ _ h19=>
(onSome pt4 fun a20=>
(onSome pt4 fun a21=>
(onSome p0 fun a22=>
(onSome pt4 fun a23=>
(onSome pt4 fun a24=>
(aI .u64 (Addr.add a20 3) h19 fun n25=>
(aI .u64 (Addr.add (Addr.add a20 3) 1) h19 fun n26=>
(aI .u64 (Addr.add (Addr.add a20 3) 2) h19 fun n27=>
(aI .u64 (Addr.add (Addr.add a20 3) 3) h19 fun n28=>
(aI .i64 (Addr.add (Addr.add a20 3) 4) h19 fun n29=>
(aI .u64 (Addr.add (Addr.add a20 3) 5) h19 fun n30=>
(aB (Addr.add (Addr.add a20 3) 6) h19 fun b31=>
(aI .u64 (Addr.add (Addr.add a20 3) 7) h19 fun n32=>
(aI .i64 (Addr.add (Addr.add a20 3) 8) h19 fun n33=>
(aI .u64 (Addr.add (Addr.add a20 3) 9) h19 fun n34=>
(aI .u64 (Addr.add (Addr.add a20 3) 10) h19 fun n35=>
(aI .u64 (Addr.add (Addr.add a20 3) 11) h19 fun n36=>
(aI .u64 (Addr.add (Addr.add a20 3) 12) h19 fun n37=>
(aI .i64 (Addr.add a21 2) h19 fun n38=>
(aP a22 h19 fun pt39=>
(onSome pt39 fun a40=>
(aP a40 h19 fun pt41=>
(onSome pt41 fun a42=>
(aP (Addr.add a42 2) h19 fun pt43=>
(aI .i64 a23 h19 fun n44=>
(aI .i64 (Addr.add a24 1) h19 fun n45=>
(f_qaw pt43 n44 (fun n46 h47=>
((aI .i64 (Addr.add a24 1) h47 fun n48=>
(((.int .i64 n48):Value)=(.int .i64 n45)))∧
((aI .i64 (Addr.add a21 2) h47 fun n49=>
(((.int .i64 n49):Value)=(.int .i64 n38)))∧
((aI .u64 (Addr.add a20 3) h47 fun n50=>
(aI .u64 (Addr.add (Addr.add a20 3) 1) h47 fun n51=>
(aI .u64 (Addr.add (Addr.add a20 3) 2) h47 fun n52=>
(aI .u64 (Addr.add (Addr.add a20 3) 3) h47 fun n53=>
(aI .i64 (Addr.add (Addr.add a20 3) 4) h47 fun n54=>
(aI .u64 (Addr.add (Addr.add a20 3) 5) h47 fun n55=>
(aB (Addr.add (Addr.add a20 3) 6) h47 fun b56=>
(aI .u64 (Addr.add (Addr.add a20 3) 7) h47 fun n57=>
(aI .i64 (Addr.add (Addr.add a20 3) 8) h47 fun n58=>
(aI .u64 (Addr.add (Addr.add a20 3) 9) h47 fun n59=>
(aI .u64 (Addr.add (Addr.add a20 3) 10) h47 fun n60=>
(aI .u64 (Addr.add (Addr.add a20 3) 11) h47 fun n61=>
(aI .u64 (Addr.add (Addr.add a20 3) 12) h47 fun n62=>
(((.agg #[(.int .u64 n50),(.int .u64 n51),(.int .u64 n52),(.int .u64 n53),(.int .i64 n54),(.int .u64 n55),(.bool b56),(.int .u64 n57),(.int .i64 n58),(.int .u64 n59),(.int .u64 n60),(.int .u64 n61),(.int .u64 n62)]):Value)=(.agg #[(.int .u64 n25),(.int .u64 n26),(.int .u64 n27),(.int .u64 n28),(.int .i64 n29),(.int .u64 n30),(.bool b31),(.int .u64 n32),(.int .i64 n33),(.int .u64 n34),(.int .u64 n35),(.int .u64 n36),(.int .u64 n37)])))))))))))))))∧
(Q n25 n26 n27 n28 n29 n30 b31 n32 n33 n34 n35 n36 n37 n38 n14 n15 n46 n45 true h47))))) h19)))))))))))))))))))))))))))) h))))))))))))))
def qft_A:qft_T:=qft_G qfs_A qaw_A
def qft_W (f:qft_T):ArS [.c .p,.c (.i .i64)] EnR:=fun p0 p1 K _Kp=>f p0 p1 (fun r0 r1 r2 r3 r4 r5 r6 r7 r8 r9 r10 r11 r12 r13 r14 r15 r16 r17 r18=>K (.tuple #[(.agg #[(.int .u64 r0),(.int .u64 r1),(.int .u64 r2),(.int .u64 r3),(.int .i64 r4),(.int .u64 r5),(.bool r6),(.int .u64 r7),(.int .i64 r8),(.int .u64 r9),(.int .u64 r10),(.int .u64 r11),(.int .u64 r12),(.int .i64 r13),(.int .i64 r14),(.int .i64 r15),(.int .i64 r16),(.int .i64 r17)]),(.bool r18)]))
abbrev qfu_T:=Int→Int→Int→Int→Int→Int→Bool→(Bool→AH→Prop)→AP
def qfu_G (f_qfr:qfr_T) (f_qac:qac_T) (f_qch:qch_T) (f_qfp:qfp_T) (f_qft:qft_T) (p0:Int) (p1:Int) (p2:Int) (p3:Int) (p4:Int) (p5:Int) (p6:Bool) (Q:Bool→AH→Prop) (h:AH):Prop:=
(∃ R1:AH→Prop,(∀ h8,R1 h8→
(f_qac (40:Int) (3:Int) (1:Int) Sl.nil (fun n9 n10 n11 n12 s13 n14 s15 h16=>
(f_qch n9 n10 n11 n12 s13 n14 s15 (fun pt17 n18 h19=>
(∃ R20:AH→Prop,(∀ h21,R20 h21→
(∃ I22:Int→Nat→AH→Prop,(∃ m23,I22 (0:Int) m23 h21)∧∀ x26:Int,∀ m23 h25,I22 x26 m23 h25→
(bsel (decide (x26<(4:Int)))
(inB x26 4
(geI .u64 [(.int .u64 p2),(.int .u64 p3),(.int .u64 p4),(.int .u64 p5)] (Int.toNat x26) fun n27=>
(f_qfp pt17 (16:Int) (IntKind.wrap .u64 x26) n27 (0:Int) (0:Int) (0:Int) (fun _ _ _ _ _ _ h34=>
(∃ m24,m24<m23∧I22 (IntKind.wrap .i64 (x26+(1:Int))) m24 h34)) h25)))
(f_qfp pt17 (10:Int) p0 (0:Int) (0:Int) (0:Int) (0:Int) (fun _ _ _ _ _ _ h41=>
(f_qft pt17 (0:Int) (fun n42 n43 n44 n45 n46 n47 b48 n49 n50 n51 n52 n53 n54 n55 n56 n57 n58 n59 _ h61=>
(∃ R62:Int→Int→Int→Int→Int→Int→Int→AH→Prop,(∀ x63:Int,∀ c64:Int,∀ c65:Int,∀ c66:Int,∀ c67:Int,∀ c68:Int,∀ c69:Int,∀ h70,R62 x63 c64 c65 c66 c67 c68 c69 h70→
(f_qfp pt17 c64 c65 c66 c67 c68 c69 (fun n71 n72 n73 n74 n75 b76 h77=>
(f_qft pt17 (0:Int) (fun n78 n79 _ n81 _ _ b84 _ _ _ _ _ _ _ _ _ _ _ _ h97=>
(f_qfp pt17 c64 c65 c66 c67 c68 c69 (fun n98 n99 n100 n101 n102 b103 h104=>
(f_qfp pt17 (11:Int) (0:Int) (0:Int) (0:Int) (0:Int) (0:Int) (fun _ _ n107 _ _ _ h111=>
(f_qft pt17 (0:Int) (fun n112 n113 n114 n115 n116 n117 b118 n119 n120 n121 n122 n123 n124 n125 n126 n127 n128 n129 _ h131=>
(f_qfp pt17 c64 c65 c66 c67 c68 c69 (fun n132 n133 n134 n135 n136 b137 h138=>
(∃ R139:AH→Prop,(∀ h140,R139 h140→
(f_qfr (fun b141 h142=>
(bsel b141
(bsel b84
(bsel (n78==(IntKind.wrap .u64 (p1-(Int.tmod p1 (8:Int)))))
(bsel (n79==(IntKind.wrap .u64 x63))
(bsel (n81==(0:Int))
(bsel (n107==(0:Int))
(Q ((((n112==n42)&&((n113==n43)&&((n114==n44)&&((n115==n45)&&true))))&&((n116==n46)&&((n117==n47)&&((b118==b48)&&(((n119==n49)&&((n120==n50)&&true))&&(((n121==n51)&&((n122==n52)&&((n123==n53)&&((n124==n54)&&true))))&&true))))))&&((n125==n55)&&((n126==n56)&&((n127==n57)&&((n128==n58)&&((n129==n59)&&true)))))) h142)
(Q false h142))
(Q false h142))
(Q false h142))
(Q false h142))
(Q false h142))
(Q false h142))) h140))∧
(bsel (!((n71==(0:Int))&&((n72==(0:Int))&&((n73==(9:Int))&&(((n74==((IntKind.wrap .u64 (p1-(Int.tmod p1 (8:Int)))):Int))&&((n75==x63)&&true))&&((b76==true)&&true))))))
(Q false h138)
(bsel (!((n98==(0:Int))&&((n99==(0:Int))&&((n100==(9:Int))&&(((n101==((IntKind.wrap .u64 (p1-(Int.tmod p1 (8:Int)))):Int))&&((n102==x63)&&true))&&((b103==false)&&true))))))
(Q false h138)
(bsel (!((n132==n71)&&((n133==n72)&&((n134==n73)&&(((n135==n74)&&((n136==n75)&&true))&&((b137==b76)&&true))))))
(Q false h138)
(R139 h138)))))) h131)) h111)) h104)) h97)) h77)) h70))∧
(bsel p6
(R62 (6:Int) (5:Int) (IntKind.wrap .u64 (p1-(Int.tmod p1 (8:Int)))) (8:Int) (1:Int) (0:Int) (0:Int) h61)
(R62 (4:Int) (4:Int) (IntKind.wrap .u64 (p1-(Int.tmod p1 (8:Int)))) (8:Int) (0:Int) (0:Int) (0:Int) h61)))) h41)) h25))))∧
(bsel (n18 != (0:Int))
(Q false h19)
(bsel pt17.isNone
(Q false h19)
(R20 h19))))) h16)) h8))∧
(bsel (decide (p0<(1:Int)))
(f_qfr (fun b2 h3=>
(Q b2 h3)) h)
(bsel (decide (p0≥(140737488355328:Int)))
(f_qfr (fun b4 h5=>
(Q b4 h5)) h)
(bsel (decide (p1≥(140737488355328:Int)))
(f_qfr (fun b6 h7=>
(Q b6 h7)) h)
(R1 h)))))
def qfu_A:qfu_T:=qfu_G qfr_A qac_A qch_A qfp_A qft_A
def qfu_W (f:qfu_T):ArS [.c (.i .u64),.c (.i .u64),.agg [(.i .u64),(.i .u64),(.i .u64),(.i .u64)],.c .b] EnR:=fun p0 p1 p2 p3 p4 p5 p6 K _Kp=>f p0 p1 p2 p3 p4 p5 p6 (fun r0=>K (.bool r0))
end Go.Dn
