/- Printed by gen3.py: what each function does, as a predicate over a part of the heap. -/
import Derived.Test.YtmfmhmipcdgikaaGreatDnY
import Derived.Test.YtmfmhmipcdgikaaGreatParseD
import Derived.Test.YtmfmhmipcdgikaaGreatDnZ
import Derived.Test.YtmfmhmipcdgikaaGreatDnO
import Derived.Test.YtmfmhmipcdgikaaGreatDnSI
namespace Go.Dn
open Addr (add mk)
open IntKind (wrap)
open Int (toNat)
abbrev aAM:Nat:=158
abbrev gI:Nat:=317
abbrev qaa_T:=Int->Int->Int->(Sl->AH->Prop)->AP
def qaa_A (p0:Int) (p1:Int) (p2:Int) (Q:Sl->AH->Prop) (h:AH):Prop:=
(aT h (.cells (madeCells #[(.int .u8 (0:Int))] (20*1)) 5) λb1 h2=>
∃ I3:Int->Nat->AH->Prop,(∃ m4,I3 (0:Int) m4 h2)/\∀ x7:Int,∀ m4 h6,I3 x7 m4 h6->
bsel (decide (x7<(8:Int)))
(bsel (decide ((wrap .i64 ((8:Int)*x7))<0)) False
(bF x7 20
(aC (add (mk b1 0 none) (toNat x7*1)) (.int .u8 (wrap .u8 (Int.fdiv p0 (2 ^ (min (toNat (wrap .i64 ((8:Int)*x7))) 64))))) h6 λh8=>
bsel (decide ((wrap .i64 ((8:Int)*x7))<0)) False
(bF (wrap .i64 ((8:Int)+x7)) 20
(aC (add (mk b1 0 none) (toNat (wrap .i64 ((8:Int)+x7))*1)) (.int .u8 (wrap .u8 (Int.fdiv p1 (2 ^ (min (toNat (wrap .i64 ((8:Int)*x7))) 64))))) h8 λh9=>
∃ m5,m5<m4/\I3 (wrap .i64 (x7+(1:Int))) m5 h9)))))
(∃ I10:Int->Nat->AH->Prop,(∃ m11,I10 (0:Int) m11 h6)/\∀ x14:Int,∀ m11 h13,I10 x14 m11 h13->
bsel (decide (x14<(4:Int)))
(bsel (decide ((wrap .i64 ((8:Int)*x14))<0)) False
(bF (wrap .i64 ((16:Int)+x14)) 20
(aC (add (mk b1 0 none) (toNat (wrap .i64 ((16:Int)+x14))*1)) (.int .u8 (wrap .u8 (Int.fdiv p2 (2 ^ (min (toNat (wrap .i64 ((8:Int)*x14))) 32))))) h13 λh15=>
∃ m12,m12<m11/\I10 (wrap .i64 (x14+(1:Int))) m12 h15)))
(Q (Sl.mk (some (mk b1 0 none)) 20 20) h13)))
def qaa_W (f:qaa_T):aW [.c (.i .u64),.c (.i .u64),.c (.i .u32)] EnR:=λp0 p1 p2 K _Kp=>f p0 p1 p2 (λr0=>K (.slice r0.a r0.len r0.cap))
abbrev qab_T:=Int->Int->(Int->Int->Int->Int->Sl->AH->Prop)->AP
def qab_G (f_qaa:qaa_T) (p0:Int) (p1:Int) (Q:Int->Int->Int->Int->Sl->AH->Prop) (h:AH):Prop:=
(f_qaa (0:Int) (wrap .u64 ((wrap .u64 p0)*(4096:Int))) (1:Int) (λs1 h2=>
Q p0 (0:Int) (1:Int) p1 s1 h2) h)
def qab_A:qab_T:=qab_G qaa_A
def qab_W (f:qab_T):aW [.c (.i .i64),.c (.i .i64)] EnR:=λp0 p1 K _Kp=>f p0 p1 (λr0 r1 r2 r3 r4=>K (.agg #[(.int .i64 r0),(.int .i64 r1),(.int .i64 r2),(.int .i64 r3),(.slice r4.a r4.len r4.cap)]))
abbrev qac_T:=Int->Int->Int->Sl->(Int->Int->Int->Int->Sl->Int->Sl->AH->Prop)->AP
def qac_G (f_qab:qab_T) (p0:Int) (p1:Int) (p2:Int) (p3:Sl) (Q:Int->Int->Int->Int->Sl->Int->Sl->AH->Prop) (h:AH):Prop:=
(∃ R1:Sl->AH->Prop,(∀ s2:Sl,∀ h3,R1 s2 h3->
f_qab p0 p1 (λn4 n5 n6 n7 s8 h9=>
aT h9 (.cells #[] 3) λb10 h11=>
jZ 1 8 #[(.int .i64 (0:Int))] 3 (Sl.mk (some (mk b10 0 none)) 0 0) s2 h11 λs12 h13=>
Q n4 n5 n6 n7 s8 p2 s12 h13) h3)/\
(bsel (decide ((Int.ofNat p3.len) > (200:Int)))
(bF (200:Int) (p3.cap+1)
(R1 (Sl.mk (if p3.cap=0 then p3.a else Option.map (λx=>add x (0*1)) p3.a) 200 p3.cap) h))
(R1 p3 h)))
def qac_A:qac_T:=qac_G qab_A
def qac_W (f:qac_T):aW [.c (.i .i64),.c (.i .i64),.c (.i .i64),.c .s] EnR:=λp0 p1 p2 p3 K _Kp=>f p0 p1 p2 p3 (λr0 r1 r2 r3 r4 r5 r6=>K (.agg #[(.int .i64 r0),(.int .i64 r1),(.int .i64 r2),(.int .i64 r3),(.slice r4.a r4.len r4.cap),(.int .i64 r5),(.slice r6.a r6.len r6.cap)]))
abbrev qad_T:=Sl->(Sl->Int->AH->Prop)->AP
def qad_A:qad_T:=paA 201
def qad_W (f:qad_T):aW [.c .s] EnR:=λp0 K _Kp=>f p0 (λr0 r1=>K (.tuple #[.slice r0.a r0.len r0.cap,.int .i64 r1]))
abbrev qae_T:=Int->Int->Int->Int->(Int->Int->AH->Prop)->AP
def qae_A (p0:Int) (p1:Int) (p2:Int) (p3:Int) (Q:Int->Int->AH->Prop) (h:AH):Prop:=
(∃ R1:Int->Int->AH->Prop,(∀ x2:Int,∀ x3:Int,∀ h4,R1 x2 x3 h4->
∃ R5:Int->AH->Prop,(∀ x6:Int,∀ h7,R5 x6 h7->
Q ((wrap .i64 (if (wrap .u64 p3)<x2 then (wrap .u64 p3) else x2)):Int) ((wrap .i64 (if (wrap .u64 p3)<x6 then (wrap .u64 p3) else x6)):Int) h7)/\
(bsel (p1==(0:Int))
(R5 x2 h4)
(R5 x3 h4)))/\
(bsel (p2==(1:Int))
(bsel ((Int.tmod p0 (4096:Int)) != (0:Int))
(R1 (wrap .u64 ((wrap .u64 (Int.tdiv p0 (4096:Int)))+(1:Int))) (wrap .u64 (Int.tdiv (wrap .u64 (p0+p1)) (4096:Int))) h)
(R1 (wrap .u64 (Int.tdiv p0 (4096:Int))) (wrap .u64 (Int.tdiv (wrap .u64 (p0+p1)) (4096:Int))) h))
(bsel ((Int.tmod (wrap .u64 (p0+p1)) (4096:Int)) != (0:Int))
(R1 (wrap .u64 (Int.tdiv p0 (4096:Int))) (wrap .u64 ((wrap .u64 (Int.tdiv (wrap .u64 (p0+p1)) (4096:Int)))+(1:Int))) h)
(R1 (wrap .u64 (Int.tdiv p0 (4096:Int))) (wrap .u64 (Int.tdiv (wrap .u64 (p0+p1)) (4096:Int))) h))))
def qae_W (f:qae_T):aW [.agg [(.i .u64),(.i .u64),(.i .u32)],.c (.i .i64)] EnR:=λp0 p1 p2 p3 K _Kp=>f p0 p1 p2 p3 (λr0 r1=>K (.agg #[(.int .i64 r0),(.int .i64 r1)]))
abbrev qaf_T:=Sl->(Sl->AH->Prop)->AP
def qaf_A (p0:Sl) (Q:Sl->AH->Prop) (h:AH):Prop:=
(bsel (Option.isNone p0.a)
(Q Sl.nil h)
(aT h (.cells #[] 30) λb1 h2=>
jZ 2 16 #[(.int .i64 (0:Int)),(.int .i64 (0:Int))] 30 (Sl.mk (some (mk b1 0 none)) 0 0) p0 h2 λs3 h4=>
Q s3 h4))
def qaf_W (f:qaf_T):aW [.c .s] EnR:=λp0 K _Kp=>f p0 (λr0=>K (.slice r0.a r0.len r0.cap))
abbrev qag_T:=Int->Int->(Bool->AH->Prop)->AP
def qag_A (p0:Int) (p1:Int) (Q:Bool->AH->Prop) (h:AH):Prop:=
(Q (decide (p1<=p0)) h)
def qag_W (f:qag_T):aW [.agg [(.i .i64),(.i .i64)]] EnR:=λp0 p1 K _Kp=>f p0 p1 (λr0=>K (.bool r0))
abbrev qah_T:=Sl->(Int->AH->Prop)->AP
def qah_G (f_qag:qag_T) (p0:Sl) (Q:Int->AH->Prop) (h:AH):Prop:=
(∃ I1:Int->Nat->AH->Prop,(∃ m2,I1 (0:Int) m2 h)/\∀ x5:Int,∀ m2 h4,I1 x5 m2 h4->
bsel (decide (x5<(Int.ofNat p0.len)))
(aF p0.a λa6=>
bF x5 p0.len
(aI .i64 (add a6 (toNat x5*2)) h4 λn7=>
aI .i64 (add (add a6 (toNat x5*2)) 1) h4 λn8=>
f_qag n7 n8 (λb9 h10=>
bsel b9
(Q x5 h10)
(∃ m3,m3<m2/\I1 (wrap .i64 (x5+(1:Int))) m3 h10)) h4))
(Q (-1:Int) h4))
def qah_A:qah_T:=qah_G qag_A
def qah_W (f:qah_T):aW [.c .s,.fn 181 [] []] EnR:=λp0 K _Kp=>f p0 (λr0=>K (.int .i64 r0))
abbrev qai_T:=Sl->(Sl->AH->Prop)->AP
def qai_G (f_qah:qah_T) (f_qag:qag_T) (p0:Sl) (Q:Sl->AH->Prop) (h:AH):Prop:=
(f_qah p0 (λn1 h2=>
bsel (n1==(-1:Int))
(Q p0 h2)
(∃ I3:Int->Int->Nat->AH->Prop,(∃ m4,I3 n1 (wrap .i64 (n1+(1:Int))) m4 h2)/\∀ x7:Int,∀ x8:Int,∀ m4 h6,I3 x7 x8 m4 h6->
bsel (decide (x8<(Int.ofNat p0.len)))
(∃ R9:Int->AH->Prop,(∀ x18:Int,∀ h19,R9 x18 h19->
∃ m5,m5<m4/\I3 x18 (wrap .i64 (x8+(1:Int))) m5 h19)/\
(aF p0.a λa10=>
bF x8 p0.len
(aI .i64 (add a10 (toNat x8*2)) h6 λn11=>
aI .i64 (add (add a10 (toNat x8*2)) 1) h6 λn12=>
f_qag n11 n12 (λb13 h14=>
bsel (!b13)
(aF p0.a λa15=>
bF x7 p0.len
(aC (add a15 (toNat x7*2)) (.int .i64 n11) h14 λh16=>
aC (add (add a15 (toNat x7*2)) 1) (.int .i64 n12) h16 λh17=>
R9 (wrap .i64 (x7+(1:Int))) h17))
(R9 x7 h14)) h6)))
(bF x7 (p0.len+1)
(aIe #[(.int .i64 (0:Int)),(.int .i64 (0:Int))] (Sl.mk (if p0.cap=(toNat x7) then p0.a else Option.map (λx=>add x ((toNat x7)*2)) p0.a) (p0.len-(toNat x7)) (p0.cap-(toNat x7))) h6 λh20=>
bF x7 (p0.cap+1)
(Q (Sl.mk (if p0.cap=0 then p0.a else Option.map (λx=>add x (0*2)) p0.a) (toNat x7) p0.cap) h20))))) h)
def qai_A:qai_T:=qai_G qah_A qag_A
def qai_W (f:qai_T):aW [.c .s,.fn 181 [] []] EnR:=λp0 K _Kp=>f p0 (λr0=>K (.slice r0.a r0.len r0.cap))
abbrev qaj_T:=Sl->AP->AP
def qaj_A:qaj_T:=soA uD (Go.Proofs.ltOf aBd) 2
def qaj_W (f:qaj_T):aW [.c .s,.fn 183 [] []] EnR:=λp0 K _Kp=>f p0 (K (.tuple #[]))
abbrev qak_T:=Sl->(Sl->AH->Prop)->AP
def qak_G (f_qaf:qaf_T) (f_qai:qai_T) (f_qaj:qaj_T) (p0:Sl) (Q:Sl->AH->Prop) (h:AH):Prop:=
(f_qaf p0 (λs1 h2=>
f_qai s1 (λs3 h4=>
f_qaj s3 (λh5=>
∃ I6:Sl->Int->Nat->AH->Prop,(∃ m7,I6 Sl.nil (0:Int) m7 h5)/\∀ s10:Sl,∀ x11:Int,∀ m7 h9,I6 s10 x11 m7 h9->
bsel (decide (x11<(Int.ofNat s3.len)))
(∃ R12:Sl->AH->Prop,(∀ s29:Sl,∀ h30,R12 s29 h30->
∃ m8,m8<m7/\I6 s29 (wrap .i64 (x11+(1:Int))) m8 h30)/\
(aF s3.a λa13=>
bF x11 s3.len
(aI .i64 (add a13 (toNat x11*2)) h9 λn14=>
aI .i64 (add (add a13 (toNat x11*2)) 1) h9 λn15=>
∃ R16:Bool->AH->Prop,(∀ b19:Bool,∀ h20,R16 b19 h20->
bsel b19
(aF s10.a λa21=>
bF (wrap .i64 ((Int.ofNat s10.len)-(1:Int))) s10.len
(aI .i64 (add (add a21 (toNat (wrap .i64 ((Int.ofNat s10.len)-(1:Int)))*2)) 1) h20 λn22=>
aF s10.a λa23=>
bF (wrap .i64 ((Int.ofNat s10.len)-(1:Int))) s10.len
(aC (add (add a23 (toNat (wrap .i64 ((Int.ofNat s10.len)-(1:Int)))*2)) 1) (.int .i64 (if n15 > n22 then n15 else n22)) h20 λh24=>
R12 s10 h24)))
(aT h20 (.cells #[(.int .i64 n14),(.int .i64 n15)] 30) λb25 h26=>
jZ 2 16 #[(.int .i64 (0:Int)),(.int .i64 (0:Int))] 30 s10 (Sl.mk (some (mk b25 0 none)) 1 1) h26 λs27 h28=>
R12 s27 h28))/\
(bsel (decide ((Int.ofNat s10.len) > (0:Int)))
(aF s10.a λa17=>
bF (wrap .i64 ((Int.ofNat s10.len)-(1:Int))) s10.len
(aI .i64 (add (add a17 (toNat (wrap .i64 ((Int.ofNat s10.len)-(1:Int)))*2)) 1) h9 λn18=>
R16 (decide (n14<=n18)) h9))
(R16 false h9)))))
(Q s10 h9)) h4) h2) h)
def qak_A:qak_T:=qak_G qaf_A qai_A qaj_A
def qak_W (f:qak_T):aW [.c .s] EnR:=λp0 K _Kp=>f p0 (λr0=>K (.slice r0.a r0.len r0.cap))
abbrev qal_T:=Sl->Sl->(Sl->AH->Prop)->AP
def qal_G (f_qak:qak_T) (p0:Sl) (p1:Sl) (Q:Sl->AH->Prop) (h:AH):Prop:=
(f_qak p1 (λs1 h2=>
f_qak p0 (λs3 h4=>
∃ I5:Sl->Int->Nat->AH->Prop,(∃ m6,I5 Sl.nil (0:Int) m6 h4)/\∀ s9:Sl,∀ x10:Int,∀ m6 h8,I5 s9 x10 m6 h8->
bsel (decide (x10<(Int.ofNat s3.len)))
(∃ R11:Sl->AH->Prop,(∀ s40:Sl,∀ h41,R11 s40 h41->
∃ m7,m7<m6/\I5 s40 (wrap .i64 (x10+(1:Int))) m7 h41)/\
(aF s3.a λa12=>
bF x10 s3.len
(aI .i64 (add a12 (toNat x10*2)) h8 λn13=>
aI .i64 (add (add a12 (toNat x10*2)) 1) h8 λn14=>
∃ I15:Sl->Int->Int->Nat->AH->Prop,(∃ m16,I15 s9 n13 (0:Int) m16 h8)/\∀ s19:Sl,∀ x20:Int,∀ x21:Int,∀ m16 h18,I15 s19 x20 x21 m16 h18->
bsel (decide (x21<(Int.ofNat s1.len)))
(∃ R22:Sl->Int->AH->Prop,(∀ s33:Sl,∀ x34:Int,∀ h35,R22 s33 x34 h35->
∃ m17,m17<m16/\I15 s33 x34 (wrap .i64 (x21+(1:Int))) m17 h35)/\
(aF s1.a λa23=>
bF x21 s1.len
(aI .i64 (add a23 (toNat x21*2)) h18 λn24=>
aI .i64 (add (add a23 (toNat x21*2)) 1) h18 λn25=>
bsel (decide (n25<=x20))
(R22 s19 x20 h18)
(bsel (decide (n24>=n14))
(R22 s19 x20 h18)
(∃ R26:Sl->AH->Prop,(∀ s31:Sl,∀ h32,R26 s31 h32->
R22 s31 (if n25 > x20 then n25 else x20) h32)/\
(bsel (decide (n24 > x20))
(aT h18 (.cells #[(.int .i64 x20),(.int .i64 n24)] 30) λb27 h28=>
jZ 2 16 #[(.int .i64 (0:Int)),(.int .i64 (0:Int))] 30 s19 (Sl.mk (some (mk b27 0 none)) 1 1) h28 λs29 h30=>
R26 s29 h30)
(R26 s19 h18)))))))
(bsel (decide (x20<n14))
(aT h18 (.cells #[(.int .i64 x20),(.int .i64 n14)] 30) λb36 h37=>
jZ 2 16 #[(.int .i64 (0:Int)),(.int .i64 (0:Int))] 30 s19 (Sl.mk (some (mk b36 0 none)) 1 1) h37 λs38 h39=>
R11 s38 h39)
(R11 s19 h18)))))
(Q s9 h8)) h2) h)
def qal_A:qal_T:=qal_G qak_A
def qal_W (f:qal_T):aW [.c .s,.c .s] EnR:=λp0 p1 K _Kp=>f p0 p1 (λr0=>K (.slice r0.a r0.len r0.cap))
abbrev qam_T:=Sl->Int->Int->Int->(Sl->Int->AH->Prop)->AP
def qam_G (f_qad:qad_T) (f_qae:qae_T) (f_qal:qal_T) (p0:Sl) (p1:Int) (p2:Int) (p3:Int) (Q:Sl->Int->AH->Prop) (h:AH):Prop:=
(∃ R1:AH->Prop,(∀ h2,R1 h2->
f_qad p0 (λs3 n4 h5=>
bsel (n4 != (0:Int))
(Q Sl.nil n4 h5)
(aT h5 (.cells #[(.int .i64 p2),(.int .i64 p3)] 30) λb6 h7=>
∃ I8:Sl->Sl->Int->Nat->AH->Prop,(∃ m9,I8 Sl.nil (Sl.mk (some (mk b6 0 none)) 1 1) (0:Int) m9 h7)/\∀ s12:Sl,∀ s13:Sl,∀ x14:Int,∀ m9 h11,I8 s12 s13 x14 m9 h11->
bsel (decide (x14<(Int.ofNat s3.len)))
(∃ R15:Sl->Sl->AH->Prop,(∀ s31:Sl,∀ s32:Sl,∀ h33,R15 s31 s32 h33->
∃ m10,m10<m9/\I8 s31 s32 (wrap .i64 (x14+(1:Int))) m10 h33)/\
(aF s3.a λa16=>
bF x14 s3.len
(aI .u64 (add a16 (toNat x14*3)) h11 λn17=>
aI .u64 (add (add a16 (toNat x14*3)) 1) h11 λn18=>
aI .u32 (add (add a16 (toNat x14*3)) 2) h11 λn19=>
f_qae n17 n18 n19 p1 (λn20 n21 h22=>
bsel (n19==(1:Int))
(aT h22 (.cells #[(.int .i64 n20),(.int .i64 n21)] 30) λb23 h24=>
jZ 2 16 #[(.int .i64 (0:Int)),(.int .i64 (0:Int))] 30 s12 (Sl.mk (some (mk b23 0 none)) 1 1) h24 λs25 h26=>
R15 s25 s13 h26)
(aT h22 (.cells #[(.int .i64 n20),(.int .i64 n21)] 30) λb27 h28=>
jZ 2 16 #[(.int .i64 (0:Int)),(.int .i64 (0:Int))] 30 s13 (Sl.mk (some (mk b27 0 none)) 1 1) h28 λs29 h30=>
R15 s12 s29 h30)) h11)))
(f_qal s12 s13 (λs34 h35=>
bsel ((Int.ofNat s34.len)==(0:Int))
(Q Sl.nil (7:Int) h35)
(Q s34 (0:Int) h35)) h11))) h2)/\
(bsel (decide (p1<(1:Int)))
(Q Sl.nil (1:Int) h)
(bsel (decide (p1 > (1048576:Int)))
(Q Sl.nil (1:Int) h)
(bsel (decide (p2<(0:Int)))
(Q Sl.nil (1:Int) h)
(bsel (decide (p3<p2))
(Q Sl.nil (1:Int) h)
(bsel (decide (p3 > p1))
(Q Sl.nil (1:Int) h)
(R1 h)))))))
def qam_A:qam_T:=qam_G qad_A qae_A qal_A
def qam_W (f:qam_T):aW [.c .s,.c (.i .i64),.agg [(.i .i64),(.i .i64)]] EnR:=λp0 p1 p2 p3 K _Kp=>f p0 p1 p2 p3 (λr0 r1=>K (.tuple #[(.slice r0.a r0.len r0.cap),(.int .i64 r1)]))
abbrev qan_T:=Option Addr->(AH->Prop)->AP
def qan_A (p0:Option Addr) (Q:AH->Prop) (h:AH):Prop:=
(aT h (.map #[] 0) λb1 h2=>
aT h2 (.map #[] 0) λb3 h4=>
aF p0 λa5=>
aC (add a5 1) (.int .i64 (1:Int)) h4 λh6=>
aF p0 λa7=>
aC (add a7 3) (.map (some b1)) h6 λh8=>
aF p0 λa9=>
aC (add a9 4) (.map (some b3)) h8 λh10=>
Q h10)
def qan_W (f:qan_T):aW [.c .p] EnR:=λp0 K _Kp=>f p0 (K (.tuple #[]))
abbrev qao_T:=Int->(Option Addr->Int->AH->Prop)->AP
def qao_G (f_qan:qan_T) (p0:Int) (Q:Option Addr->Int->AH->Prop) (h:AH):Prop:=
(bsel (decide (p0<(1:Int)))
(Q none (1:Int) h)
(bsel (decide (p0 > (4095:Int)))
(Q none (1:Int) h)
(aT h (.cells #[(.int .i64 p0),(.int .i64 (0:Int)),(.int .i64 (0:Int)),(.map none),(.map none)] 190) λb1 h2=>
f_qan (some (mk b1 0 none)) (λh3=>
Q (some (mk b1 0 none)) (0:Int) h3) h2)))
def qao_A:qao_T:=qao_G qan_A
def qao_W (f:qao_T):aW [.c (.i .i64)] EnR:=λp0 K _Kp=>f p0 (λr0 r1=>K (.tuple #[(.pointer r0),(.int .i64 r1)]))
abbrev qap_T:=Int->Sl->(Option Addr->Int->AH->Prop)->AP
def qap_A (p0:Int) (p1:Sl) (Q:Option Addr->Int->AH->Prop) (h:AH):Prop:=
(bsel (decide (p0<(1:Int)))
(Q none (1:Int) h)
(∃ R1:AH->Prop,(∀ h2,R1 h2->
∃ I3:Int->Nat->AH->Prop,(∃ m4,I3 (0:Int) m4 h2)/\∀ x7:Int,∀ m4 h6,I3 x7 m4 h6->
bsel (decide (x7<(Int.ofNat p1.len)))
(aF p1.a λa8=>
bF x7 p1.len
(aI .i64 (add a8 (toNat x7*2)) h6 λn9=>
aI .i64 (add (add a8 (toNat x7*2)) 1) h6 λn10=>
bsel (decide (n9<(0:Int)))
(Q none (3:Int) h6)
(bsel (decide (n10<n9))
(Q none (3:Int) h6)
(bsel (decide (n10 > p0))
(Q none (3:Int) h6)
(∃ m5,m5<m4/\I3 (wrap .i64 (x7+(1:Int))) m5 h6)))))
(jZ 2 16 #[(.int .i64 (0:Int)),(.int .i64 (0:Int))] 30 Sl.nil p1 h6 λs11 h12=>
aT h12 (.map #[] 0) λb13 h14=>
aT h14 (.cells #[(.int .i64 p0),(.slice s11.a s11.len s11.cap),(.map (some b13))] 206) λb15 h16=>
Q (some (mk b15 0 none)) (0:Int) h16))/\
(bsel (decide (p0 > (1048576:Int)))
(Q none (4:Int) h)
(bsel (decide ((Int.ofNat p1.len) > (64:Int)))
(Q none (4:Int) h)
(R1 h)))))
def qap_W (f:qap_T):aW [.c (.i .i64),.c .s] EnR:=λp0 p1 K _Kp=>f p0 p1 (λr0 r1=>K (.tuple #[(.pointer r0),(.int .i64 r1)]))
abbrev qaq_T:=Option Addr->Int->Int->(AH->Prop)->AP
def qaq_A (p0:Option Addr) (p1:Int) (p2:Int) (Q:AH->Prop) (h:AH):Prop:=
(∃ I1:Int->Int->Nat->AH->Prop,(∃ m2,I1 p1 p2 m2 h)/\∀ x5:Int,∀ x6:Int,∀ m2 h4,I1 x5 x6 m2 h4->
bsel (decide (x6<(10:Int)))
(aF p0 λa7=>
bF x6 11
(aM (add a7 (toNat x6*1)) h4 λmp8=>
bsel (decide (x6<0)) False
(qP h4 mp8 .i64 (bits .xor .i64 x5 (wrap .i64 ((1:Int)*2 ^ (min (toNat x6) 64)))) λo9=>
∃ b10:Bool,((o9.getD (.bool false)):Value)=(.bool b10)/\
(bsel b10
(aF p0 λa11=>
bF x6 11
(aM (add a11 (toNat x6*1)) h4 λmp12=>
bsel (decide (x6<0)) False
(o5 h4 mp12 .i64 (bits .xor .i64 x5 (wrap .i64 ((1:Int)*2 ^ (min (toNat x6) 64)))) λh13=>
bsel (decide (x6<0)) False
(∃ m3,m3<m2/\I1 (bits .andNot .i64 x5 (wrap .i64 ((1:Int)*2 ^ (min (toNat x6) 64)))) (wrap .i64 (x6+(1:Int))) m3 h13))))
(aF p0 λa14=>
bF x6 11
(aM (add a14 (toNat x6*1)) h4 λmp15=>
tH h4 mp15 .i64 x5 (.bool true) λh16=>
Q h16))))))
(aF p0 λa17=>
bF x6 11
(aM (add a17 (toNat x6*1)) h4 λmp18=>
tH h4 mp18 .i64 x5 (.bool true) λh19=>
Q h19)))
def qaq_W (f:qaq_T):aW [.c .p,.c (.i .i64),.c (.i .i64)] EnR:=λp0 p1 p2 K _Kp=>f p0 p1 p2 (K (.tuple #[]))
abbrev qar_T:=Sl->(Option Addr->Int->AH->Prop)->AP
def qar_G (f_qaq:qaq_T) (p0:Sl) (Q:Option Addr->Int->AH->Prop) (h:AH):Prop:=
(bsel (decide ((Int.ofNat p0.len) > (64:Int)))
(Q none (4:Int) h)
(∃ I1:Int->Int->Nat->AH->Prop,(∃ m2,I1 (0:Int) (0:Int) m2 h)/\∀ x5:Int,∀ x6:Int,∀ m2 h4,I1 x5 x6 m2 h4->
bsel (decide (x6<(Int.ofNat p0.len)))
(aF p0.a λa7=>
bF x6 p0.len
(aI .i64 (add a7 (toNat x6*2)) h4 λn8=>
aI .i64 (add (add a7 (toNat x6*2)) 1) h4 λn9=>
bsel (decide (n8<x5))
(Q none (3:Int) h4)
(bsel (decide (n9<=n8))
(Q none (3:Int) h4)
(bsel (decide (n9 > (1048576:Int)))
(Q none (3:Int) h4)
(∃ m3,m3<m2/\I1 n9 (wrap .i64 (x6+(1:Int))) m3 h4)))))
(aT h4 (.map #[] 0) λb10 h11=>
aT h11 (.cells #[(.map none),(.map none),(.map none),(.map none),(.map none),(.map none),(.map none),(.map none),(.map none),(.map none),(.map none),(.map (some b10)),(.int .i64 (0:Int))] 115) λb12 h13=>
∃ I14:Int->Nat->AH->Prop,(∃ m15,I14 (0:Int) m15 h13)/\∀ x18:Int,∀ m15 h17,I14 x18 m15 h17->
bsel (decide (x18<(11:Int)))
(aT h17 (.map #[] 0) λb19 h20=>
bF x18 11
(aC (add (mk b12 0 none) (toNat x18*1)) (.map (some b19)) h20 λh21=>
∃ m16,m16<m15/\I14 (wrap .i64 (x18+(1:Int))) m16 h21))
(∃ I22:Int->Nat->AH->Prop,(∃ m23,I22 (0:Int) m23 h17)/\∀ x26:Int,∀ m23 h25,I22 x26 m23 h25->
bsel (decide (x26<(Int.ofNat p0.len)))
(aF p0.a λa27=>
bF x26 p0.len
(aI .i64 (add a27 (toNat x26*2)) h25 λn28=>
aI .i64 (add (add a27 (toNat x26*2)) 1) h25 λn29=>
∃ I30:Int->Nat->AH->Prop,(∃ m31,I30 n28 m31 h25)/\∀ x34:Int,∀ m31 h33,I30 x34 m31 h33->
bsel (decide (x34<n29))
(∃ I35:Int->Nat->AH->Prop,(∃ m36,I35 (0:Int) m36 h33)/\∀ x39:Int,∀ m36 h38,I35 x39 m36 h38->
bsel (decide (x39<(10:Int)))
(bsel (decide (x39<0)) False
(bsel ((bits .and .i64 x34 (wrap .i64 ((1:Int)*2 ^ (min (toNat x39) 64))))==(0:Int))
(bsel (decide (x39<0)) False
(bsel (decide ((wrap .i64 (x34+(wrap .i64 ((2:Int)*2 ^ (min (toNat x39) 64)))))<=n29))
(∃ m37,m37<m36/\I35 (wrap .i64 (x39+(1:Int))) m37 h38)
(f_qaq (some (mk b12 0 none)) x34 x39 (λh40=>
bsel (decide (x39<0)) False
(∃ m32,m32<m31/\I30 (wrap .i64 (x34+(wrap .i64 ((1:Int)*2 ^ (min (toNat x39) 64))))) m32 h40)) h38)))
(f_qaq (some (mk b12 0 none)) x34 x39 (λh41=>
bsel (decide (x39<0)) False
(∃ m32,m32<m31/\I30 (wrap .i64 (x34+(wrap .i64 ((1:Int)*2 ^ (min (toNat x39) 64))))) m32 h41)) h38)))
(f_qaq (some (mk b12 0 none)) x34 x39 (λh42=>
bsel (decide (x39<0)) False
(∃ m32,m32<m31/\I30 (wrap .i64 (x34+(wrap .i64 ((1:Int)*2 ^ (min (toNat x39) 64))))) m32 h42)) h38))
(aI .i64 (add (mk b12 0 none) 12) h33 λn43=>
aC (add (mk b12 0 none) 12) (.int .i64 (wrap .i64 (n43+(wrap .i64 (n29-n28))))) h33 λh44=>
∃ m24,m24<m23/\I22 (wrap .i64 (x26+(1:Int))) m24 h44)))
(Q (some (mk b12 0 none)) (0:Int) h25)))))
def qar_A:qar_T:=qar_G qaq_A
def qar_W (f:qar_T):aW [.c .s] EnR:=λp0 K _Kp=>f p0 (λr0 r1=>K (.tuple #[(.pointer r0),(.int .i64 r1)]))
abbrev qas_T:=Option Addr->(Int->AH->Prop)->AP
def qas_A (p0:Option Addr) (Q:Int->AH->Prop) (h:AH):Prop:=
(aF p0 λa1=>
aI .i64 (add a1 12) h λn2=>
Q n2 h)
def qas_W (f:qas_T):aW [.c .p] EnR:=λp0 K _Kp=>f p0 (λr0=>K (.int .i64 r0))
abbrev qat_T:=Int->(Option Addr->Int->AH->Prop)->AP
def qat_A (p0:Int) (Q:Option Addr->Int->AH->Prop) (h:AH):Prop:=
(bsel (decide (p0<(0:Int)))
(Q none (1:Int) h)
(bsel (decide (p0 > (1048576:Int)))
(Q none (1:Int) h)
(aT h (.cells #[(.int .i64 (-1:Int)),(.int .i64 p0),(.int .i64 (0:Int)),(.int .i64 (0:Int)),(.bool true)] 104) λb1 h2=>
aT h2 (.cells #[(.slice (some (mk b1 0 none)) 1 1)] 210) λb3 h4=>
Q (some (mk b3 0 none)) (0:Int) h4)))
def qat_W (f:qat_T):aW [.c (.i .i64)] EnR:=λp0 K _Kp=>f p0 (λr0 r1=>K (.tuple #[(.pointer r0),(.int .i64 r1)]))
abbrev qau_T:=Option Addr->Int->(Option Addr->Option Addr->Option Addr->Int->AH->Prop)->AP
def qau_A (p0:Option Addr) (p1:Int) (Q:Option Addr->Option Addr->Option Addr->Int->AH->Prop) (h:AH):Prop:=
(aF p0 λa1=>
aP a1 h λpt2=>
aF p0 λa3=>
aP (add a3 1) h λpt4=>
aF p0 λa5=>
aP (add a5 2) h λpt6=>
Q pt2 pt4 pt6 p1 h)
def qau_W (f:qau_T):aW [.c .p,.c (.i .i64)] EnR:=λp0 p1 K _Kp=>f p0 p1 (λr0 r1 r2 r3=>K (.agg #[(.pointer r0),(.pointer r1),(.pointer r2),(.int .i64 r3)]))
abbrev qav_T:=Option Addr->Int->(Option Addr->Bool->AH->Prop)->AP
def qav_A (p0:Option Addr) (p1:Int) (Q:Option Addr->Bool->AH->Prop) (h:AH):Prop:=
(bsel (decide (p1<(0:Int)))
(Q none false h)
(aF p0 λa1=>
aS a1 h λs2=>
bsel (decide (p1>=(Int.ofNat s2.len)))
(Q none false h)
(aF p0 λa3=>
aS a3 h λs4=>
aF s4.a λa5=>
bF p1 s4.len
(aB (add (add a5 (toNat p1*5)) 4) h λb6=>
bsel (!b6)
(Q none false h)
(aF p0 λa7=>
aS a7 h λs8=>
aF s8.a λa9=>
bF p1 s8.len
(Q (some (add a9 (toNat p1*5))) true h))))))
def qav_W (f:qav_T):aW [.c .p,.c (.i .i64)] EnR:=λp0 p1 K _Kp=>f p0 p1 (λr0 r1=>K (.tuple #[(.pointer r0),(.bool r1)]))
abbrev qaw_T:=Option Addr->Int->(Int->AH->Prop)->AP
def qaw_G (f_qav:qav_T) (p0:Option Addr) (p1:Int) (Q:Int->AH->Prop) (h:AH):Prop:=
(f_qav p0 p1 (λpt1 b2 h3=>
bsel (!b2)
(Q (0:Int) h3)
(aF pt1 λa4=>
aI .i64 (add a4 1) h3 λn5=>
aF pt1 λa6=>
aI .i64 (add a6 2) h3 λn7=>
aF pt1 λa8=>
aI .i64 (add a8 3) h3 λn9=>
Q (wrap .i64 ((wrap .i64 (n5-n7))-n9)) h3)) h)
def qaw_A:qaw_T:=qaw_G qav_A
def qaw_W (f:qaw_T):aW [.c .p,.c (.i .i64)] EnR:=λp0 p1 K _Kp=>f p0 p1 (λr0=>K (.int .i64 r0))
abbrev qax_T:=Option Addr->Int->Int->(Int->AH->Prop)->AP
def qax_G (f_qav:qav_T) (f_qaw:qaw_T) (p0:Option Addr) (p1:Int) (p2:Int) (Q:Int->AH->Prop) (h:AH):Prop:=
(f_qav p0 p1 (λpt1 b2 h3=>
bsel (!b2)
(Q (5:Int) h3)
(bsel (decide (p2<(0:Int)))
(Q (1:Int) h3)
(f_qaw p0 p1 (λn4 h5=>
bsel (decide (p2 > n4))
(Q (8:Int) h5)
(aF pt1 λa6=>
aI .i64 (add a6 2) h5 λn7=>
aF pt1 λa8=>
aC (add a8 2) (.int .i64 (wrap .i64 (n7+p2))) h5 λh9=>
Q (0:Int) h9)) h3))) h)
def qax_A:qax_T:=qax_G qav_A qaw_A
def qax_W (f:qax_T):aW [.c .p,.c (.i .i64),.c (.i .i64)] EnR:=λp0 p1 p2 K _Kp=>f p0 p1 p2 (λr0=>K (.int .i64 r0))
abbrev qay_T:=Option Nat->(Option Addr->AH->Prop)->AP
def qay_A (p0:Option Nat) (Q:Option Addr->AH->Prop) (h:AH):Prop:=
(aT h (.cells #[(.map p0)] 111) λb1 h2=>
Q (some (mk b1 0 none)) h2)
def qay_W (f:qay_T):aW [.c .m] EnR:=λp0 K _Kp=>f p0 (λr0=>K (.func (.func 224) #[] #[(.pointer r0)]))
abbrev qaz_T:=Option Addr->(Sl->AH->Prop)->AP
def qaz_A:qaz_T:=clA 3
def qaz_W (f:qaz_T):aW [.fn 224 [] [.p]] EnR:=λp0 K _Kp=>f p0 (λr0=>K (.slice r0.a r0.len r0.cap))
abbrev qba_T:=Sl->(Int->AH->Prop)->AP
def qba_A (p0:Sl) (Q:Int->AH->Prop) (h:AH):Prop:=
(∃ R1:AH->Prop,(∀ h2,R1 h2->
aF p0.a λa3=>
bF (0:Int) p0.len
(aI .i64 a3 h2 λn4=>
∃ I5:Int->Int->Nat->AH->Prop,(∃ m6,I5 n4 (1:Int) m6 h2)/\∀ x9:Int,∀ x10:Int,∀ m6 h8,I5 x9 x10 m6 h8->
bsel (decide (x10<(Int.ofNat p0.len)))
(aF p0.a λa11=>
bF x10 p0.len
(aI .i64 (add a11 (toNat x10*1)) h8 λn12=>
∃ m7,m7<m6/\I5 (if n12<x9 then n12 else x9) (wrap .i64 (x10+(1:Int))) m7 h8))
(Q x9 h8)))/\
(bsel (decide ((Int.ofNat p0.len)<(1:Int)))
False
(R1 h)))
def qba_W (f:qba_T):aW [.c .s] EnR:=λp0 K _Kp=>f p0 (λr0=>K (.int .i64 r0))
abbrev qbb_T:=Option Addr->Int->(Int->Int->AH->Prop)->AP
def qbb_G (f_qay:qay_T) (f_qaz:qaz_T) (f_qba:qba_T) (p0:Option Addr) (p1:Int) (Q:Int->Int->AH->Prop) (h:AH):Prop:=
(∃ R1:AH->Prop,(∀ h2,R1 h2->
∃ R3:Int->AH->Prop,(∀ x12:Int,∀ h13,R3 x12 h13->
bsel (decide (x12 > (10:Int)))
(Q (0:Int) (7:Int) h13)
(aF p0 λa14=>
bF x12 11
(aM (add a14 (toNat x12*1)) h13 λmp15=>
f_qay mp15 (λpt16 h17=>
f_qaz pt16 (λs18 h19=>
f_qba s18 (λn20 h21=>
aF p0 λa22=>
bF x12 11
(aM (add a22 (toNat x12*1)) h21 λmp23=>
o5 h21 mp23 .i64 n20 λh24=>
∃ I25:Int->Nat->AH->Prop,(∃ m26,I25 x12 m26 h24)/\∀ x29:Int,∀ m26 h28,I25 x29 m26 h28->
bsel (decide (x29 > p1))
(aF p0 λa30=>
bF (wrap .i64 (x29-(1:Int))) 11
(aM (add a30 (toNat (wrap .i64 (x29-(1:Int)))*1)) h28 λmp31=>
bsel (decide ((wrap .i64 (x29-(1:Int)))<0)) False
(tH h28 mp31 .i64 (wrap .i64 (n20+(wrap .i64 ((1:Int)*2 ^ (min (toNat (wrap .i64 (x29-(1:Int)))) 64))))) (.bool true) λh32=>
∃ m27,m27<m26/\I25 (wrap .i64 (x29-(1:Int))) m27 h32)))
(aF p0 λa33=>
aM (add a33 11) h28 λmp34=>
tH h28 mp34 .i64 n20 (.int .i64 p1) λh35=>
aF p0 λa36=>
aI .i64 (add a36 12) h35 λn37=>
bsel (decide (p1<0)) False
(aF p0 λa38=>
aC (add a38 12) (.int .i64 (wrap .i64 (n37-(wrap .i64 ((1:Int)*2 ^ (min (toNat p1) 64)))))) h35 λh39=>
Q n20 (0:Int) h39)))) h19) h17) h13)))/\
(∃ I4:Int->Nat->AH->Prop,(∃ m5,I4 p1 m5 h2)/\∀ x8:Int,∀ m5 h7,I4 x8 m5 h7->
bsel (decide (x8<=(10:Int)))
(aF p0 λa9=>
bF x8 11
(aM (add a9 (toNat x8*1)) h7 λmp10=>
aHR h7 mp10 λn11=>
bsel (n11==(0:Int))
(∃ m6,m6<m5/\I4 (wrap .i64 (x8+(1:Int))) m6 h7)
(R3 x8 h7)))
(R3 x8 h7)))/\
(bsel (decide (p1<(0:Int)))
(Q (0:Int) (1:Int) h)
(bsel (decide (p1 > (10:Int)))
(Q (0:Int) (1:Int) h)
(R1 h))))
def qbb_A:qbb_T:=qbb_G qay_A qaz_A qba_A
def qbb_W (f:qbb_T):aW [.c .p,.c (.i .i64)] EnR:=λp0 p1 K _Kp=>f p0 p1 (λr0 r1=>K (.tuple #[(.int .i64 r0),(.int .i64 r1)]))
abbrev qbc_T:=Option Addr->Int->(Bool->AH->Prop)->AP
def qbc_A (p0:Option Addr) (p1:Int) (Q:Bool->AH->Prop) (h:AH):Prop:=
(bsel (decide (p1<(0:Int)))
(Q false h)
(aF p0 λa1=>
aI .i64 a1 h λn2=>
bsel (decide (p1>=n2))
(Q false h)
(aF p0 λa3=>
aS (add a3 1) h λs4=>
∃ I5:Int->Nat->AH->Prop,(∃ m6,I5 (0:Int) m6 h)/\∀ x9:Int,∀ m6 h8,I5 x9 m6 h8->
bsel (decide (x9<(Int.ofNat s4.len)))
(aF s4.a λa10=>
bF x9 s4.len
(aI .i64 (add a10 (toNat x9*2)) h8 λn11=>
aI .i64 (add (add a10 (toNat x9*2)) 1) h8 λn12=>
bsel (decide (p1>=n11))
(bsel (decide (p1<n12))
(Q false h8)
(∃ m7,m7<m6/\I5 (wrap .i64 (x9+(1:Int))) m7 h8))
(∃ m7,m7<m6/\I5 (wrap .i64 (x9+(1:Int))) m7 h8)))
(Q true h8))))
def qbc_W (f:qbc_T):aW [.c .p,.c (.i .i64)] EnR:=λp0 p1 K _Kp=>f p0 p1 (λr0=>K (.bool r0))
abbrev qbd_T:=Option Addr->Int->(Int->AH->Prop)->AP
def qbd_G (f_qbc:qbc_T) (p0:Option Addr) (p1:Int) (Q:Int->AH->Prop) (h:AH):Prop:=
(f_qbc p0 p1 (λb1 h2=>
bsel (!b1)
(Q (2:Int) h2)
(aF p0 λa3=>
aM (add a3 2) h2 λmp4=>
o5 h2 mp4 .i64 p1 λh5=>
Q (0:Int) h5)) h)
def qbd_A:qbd_T:=qbd_G qbc_A
def qbd_W (f:qbd_T):aW [.c .p,.c (.i .i64)] EnR:=λp0 p1 K _Kp=>f p0 p1 (λr0=>K (.int .i64 r0))
abbrev qbe_T:=Option Addr->Int->(Int->AH->Prop)->AP
def qbe_G (f_qaq:qaq_T) (p0:Option Addr) (p1:Int) (Q:Int->AH->Prop) (h:AH):Prop:=
(aF p0 λa1=>
aM (add a1 11) h λmp2=>
qP h mp2 .i64 p1 λo3=>
∃ n4:Int,((o3.getD (.int .i64 (0:Int))):Value)=(.int .i64 n4)/\
(bsel (!o3.isSome)
(Q (5:Int) h)
(aF p0 λa5=>
aM (add a5 11) h λmp6=>
o5 h mp6 .i64 p1 λh7=>
aF p0 λa8=>
aI .i64 (add a8 12) h7 λn9=>
bsel (decide (n4<0)) False
(aF p0 λa10=>
aC (add a10 12) (.int .i64 (wrap .i64 (n9+(wrap .i64 ((1:Int)*2 ^ (min (toNat n4) 64)))))) h7 λh11=>
f_qaq p0 p1 n4 (λh12=>
Q (0:Int) h12) h11))))
def qbe_A:qbe_T:=qbe_G qaq_A
def qbe_W (f:qbe_T):aW [.c .p,.c (.i .i64)] EnR:=λp0 p1 K _Kp=>f p0 p1 (λr0=>K (.int .i64 r0))
abbrev qbf_T:=Option Addr->Int->Int->(Int->AH->Prop)->AP
def qbf_G (f_qav:qav_T) (p0:Option Addr) (p1:Int) (p2:Int) (Q:Int->AH->Prop) (h:AH):Prop:=
(f_qav p0 p1 (λpt1 b2 h3=>
bsel (!b2)
(Q (5:Int) h3)
(bsel (decide (p2<(0:Int)))
(Q (1:Int) h3)
(aF pt1 λa4=>
aI .i64 (add a4 2) h3 λn5=>
bsel (decide (p2 > n5))
(Q (1:Int) h3)
(aF pt1 λa6=>
aI .i64 (add a6 2) h3 λn7=>
aF pt1 λa8=>
aC (add a8 2) (.int .i64 (wrap .i64 (n7-p2))) h3 λh9=>
Q (0:Int) h9)))) h)
def qbf_A:qbf_T:=qbf_G qav_A
def qbf_W (f:qbf_T):aW [.c .p,.c (.i .i64),.c (.i .i64)] EnR:=λp0 p1 p2 K _Kp=>f p0 p1 p2 (λr0=>K (.int .i64 r0))
abbrev qbg_T:=Option Addr->Option Addr->Option Addr->Int->(Int->Int->AH->Prop)->AP
def qbg_G (f_qax:qax_T) (f_qbb:qbb_T) (f_qbd:qbd_T) (f_qbe:qbe_T) (f_qbf:qbf_T) (p0:Option Addr) (p1:Option Addr) (p2:Option Addr) (p3:Int) (Q:Int->Int->AH->Prop) (h:AH):Prop:=
(f_qax p2 p3 (1:Int) (λn1 h2=>
bsel (n1 != (0:Int))
(Q (0:Int) n1 h2)
(f_qbb p1 (0:Int) (λn3 n4 h5=>
∃ R6:Int->AH->Prop,(∀ x11:Int,∀ h12,R6 x11 h12->
f_qbf p2 p3 (1:Int) (λ_ h14=>
Q (0:Int) x11 h14) h12)/\
(bsel (n4==(0:Int))
(f_qbd p0 n3 (λn7 h8=>
bsel (n7==(0:Int))
(Q n3 (0:Int) h8)
(f_qbe p1 n3 (λ_ h10=>
R6 n7 h10) h8)) h5)
(R6 n4 h5))) h2)) h)
def qbg_A:qbg_T:=qbg_G qax_A qbb_A qbd_A qbe_A qbf_A
def qbg_W (f:qbg_T):aW [.agg [.p,.p,.p,(.i .i64)]] EnR:=λp0 p1 p2 p3 K _Kp=>f p0 p1 p2 p3 (λr0 r1=>K (.tuple #[(.int .i64 r0),(.int .i64 r1)]))
abbrev qbh_T:=Option Addr->(Int->AH->Prop)->AP
def qbh_A (p0:Option Addr) (Q:Int->AH->Prop) (h:AH):Prop:=
(aF p0 λa1=>
aI .i64 a1 h λn2=>
Q n2 h)
def qbh_W (f:qbh_T):aW [.c .p] EnR:=λp0 K _Kp=>f p0 (λr0=>K (.int .i64 r0))
abbrev qbi_T:=Option Addr->Option Addr->Option Addr->Int->Int->(AH->Prop)->AP
def qbi_G (f_qbe:qbe_T) (f_qbf:qbf_T) (_p0:Option Addr) (p1:Option Addr) (p2:Option Addr) (p3:Int) (p4:Int) (Q:AH->Prop) (h:AH):Prop:=
(f_qbe p1 p4 (λ_ h2=>
f_qbf p2 p3 (1:Int) (λ_ h4=>
Q h4) h2) h)
def qbi_A:qbi_T:=qbi_G qbe_A qbf_A
def qbi_W (f:qbi_T):aW [.agg [.p,.p,.p,(.i .i64)],.c (.i .i64)] EnR:=λp0 p1 p2 p3 p4 K _Kp=>f p0 p1 p2 p3 p4 (K (.tuple #[]))
abbrev qbj_T:=Option Addr->(Option Addr->Option Addr->Option Addr->Option Addr->Option Addr->Option Addr->Option Addr->Option Addr->AH->Prop)->AP
def qbj_A (p0:Option Addr) (Q:Option Addr->Option Addr->Option Addr->Option Addr->Option Addr->Option Addr->Option Addr->Option Addr->AH->Prop) (h:AH):Prop:=
(aF p0 λa1=>
aF p0 λa2=>
aF p0 λa3=>
aF p0 λa4=>
aF p0 λa5=>
aF p0 λa6=>
aF p0 λa7=>
aF p0 λa8=>
Q ((some a1):Option Addr) ((some (add a2 1)):Option Addr) ((some (add a3 2)):Option Addr) ((some (add a4 3)):Option Addr) ((some (add a5 4)):Option Addr) ((some (add a6 5)):Option Addr) ((some (add a7 6)):Option Addr) ((some (add a8 7)):Option Addr) h)
def qbj_W (f:qbj_T):aW [.c .p] EnR:=λp0 K _Kp=>f p0 (λr0 r1 r2 r3 r4 r5 r6 r7=>K (.agg #[(.pointer r0),(.pointer r1),(.pointer r2),(.pointer r3),(.pointer r4),(.pointer r5),(.pointer r6),(.pointer r7)]))
abbrev qbk_T:=(Int->Int->Int->Int->Int->Int->Int->Int->AH->Prop)->AP
def qbk_A (Q:Int->Int->Int->Int->Int->Int->Int->Int->AH->Prop) (h:AH):Prop:=
(Q (0:Int) (1:Int) (2:Int) (5:Int) (6:Int) (7:Int) (8:Int) (63:Int) h)
def qbk_W (f:qbk_T):aW [] EnR:=fun  K _Kp=>f  (λr0 r1 r2 r3 r4 r5 r6 r7=>K (.agg #[(.int .i64 r0),(.int .i64 r1),(.int .i64 r2),(.int .i64 r3),(.int .i64 r4),(.int .i64 r5),(.int .i64 r6),(.int .i64 r7)]))
abbrev qbl_T:=Bool->Bool->Bool->Bool->Bool->Bool->Bool->Bool->Int->(Int->Int->AH->Prop)->AP
def qbl_G (f_qbj:qbj_T) (f_qbk:qbk_T) (p0:Bool) (p1:Bool) (p2:Bool) (p3:Bool) (p4:Bool) (p5:Bool) (p6:Bool) (p7:Bool) (p8:Int) (Q:Int->Int->AH->Prop) (h:AH):Prop:=
(aT h (.cells #[(.bool p0),(.bool p1),(.bool p2),(.bool p3),(.bool p4),(.bool p5),(.bool p6),(.bool p7),(.int .i64 p8)] 193) λb1 h2=>
∃ R3:AH->Prop,(∀ h6,R3 h6->
aI .i64 (add (mk b1 0 none) 8) h6 λn7=>
f_qbj (some (mk b1 0 none)) (λpt8 pt9 pt10 pt11 pt12 pt13 pt14 pt15 h16=>
∃ I17:Int->Int->Nat->AH->Prop,(∃ m18,I17 (wrap .u64 ((wrap .u64 n7)*2 ^ (12:Nat))) (0:Int) m18 h16)/\∀ x21:Int,∀ x22:Int,∀ m18 h20,I17 x21 x22 m18 h20->
bsel (decide (x22<(8:Int)))
(∃ R23:Int->AH->Prop,(∀ x37:Int,∀ h38,R23 x37 h38->
∃ m19,m19<m18/\I17 x37 (wrap .i64 (x22+(1:Int))) m19 h38)/\
(bF x22 8
(geP [(.pointer pt8),(.pointer pt9),(.pointer pt10),(.pointer pt11),(.pointer pt12),(.pointer pt13),(.pointer pt14),(.pointer pt15)] (toNat x22) λn24=>
aF n24 λa25=>
aB a25 h20 λb26=>
bsel b26
(f_qbk (λn27 n28 n29 n30 n31 n32 n33 n34 h35=>
bF x22 8
(geI .i64 [(.int .i64 n27),(.int .i64 n28),(.int .i64 n29),(.int .i64 n30),(.int .i64 n31),(.int .i64 n32),(.int .i64 n33),(.int .i64 n34)] (toNat x22) λn36=>
bsel (decide (n36<0)) False
(R23 (bits .or .u64 x21 (wrap .u64 ((1:Int)*2 ^ (min (toNat n36) 64)))) h35))) h20)
(R23 x21 h20))))
(Q x21 (0:Int) h20)) h6)/\
(aI .i64 (add (mk b1 0 none) 8) h2 λn4=>
bsel (decide (n4<(0:Int)))
(Q (0:Int) (1:Int) h2)
(aI .i64 (add (mk b1 0 none) 8) h2 λn5=>
bsel (decide (n5>=(1048576:Int)))
(Q (0:Int) (1:Int) h2)
(R3 h2))))
def qbl_A:qbl_T:=qbl_G qbj_A qbk_A
def qbl_W (f:qbl_T):aW [.agg [.b,.b,.b,.b,.b,.b,.b,.b,(.i .i64)]] EnR:=λp0 p1 p2 p3 p4 p5 p6 p7 p8 K _Kp=>f p0 p1 p2 p3 p4 p5 p6 p7 p8 (λr0 r1=>K (.tuple #[(.int .u64 r0),(.int .i64 r1)]))
abbrev qbm_T:=Int->Int->(Int->AH->Prop)->AP
def qbm_A (p0:Int) (p1:Int) (Q:Int->AH->Prop) (h:AH):Prop:=
(Q (wrap .u64 ((wrap .u64 ((wrap .u64 p0)*(4096:Int)))+(wrap .u64 (wrap .i64 ((8:Int)*p1))))) h)
def qbm_W (f:qbm_T):aW [.c (.i .i64),.c (.i .i64)] EnR:=λp0 p1 K _Kp=>f p0 p1 (λr0=>K (.int .u64 r0))
abbrev qbn_T:=Option Addr->Int->Int->(Int->AH->Prop)->AP
def qbn_G (f_qbc:qbc_T) (p0:Option Addr) (p1:Int) (p2:Int) (Q:Int->AH->Prop) (h:AH):Prop:=
(∃ R1:Bool->AH->Prop,(∀ b2:Bool,∀ h3,R1 b2 h3->
bsel b2
(bsel (decide ((wrap .u64 ((wrap .u64 (p1+(wrap .u64 p2)))-(1:Int)))<p1))
(Q (2:Int) h3)
(aF p0 λa4=>
aI .i64 a4 h3 λn5=>
bsel (decide ((wrap .u64 (Int.tdiv (wrap .u64 ((wrap .u64 (p1+(wrap .u64 p2)))-(1:Int))) (4096:Int)))>=(wrap .u64 n5)))
(Q (2:Int) h3)
(f_qbc p0 (wrap .i64 (wrap .u64 (Int.tdiv p1 (4096:Int)))) (λb6 h7=>
bsel (!b6)
(Q (2:Int) h7)
(f_qbc p0 (wrap .i64 (wrap .u64 (Int.tdiv (wrap .u64 ((wrap .u64 (p1+(wrap .u64 p2)))-(1:Int))) (4096:Int)))) (λb8 h9=>
bsel (!b8)
(Q (2:Int) h9)
(Q (0:Int) h9)) h7)) h3)))
(Q (1:Int) h3))/\
(bsel (p2==(1:Int))
(R1 (p2==(1:Int)) h)
(bsel (p2==(2:Int))
(R1 (p2==(2:Int)) h)
(bsel (p2==(4:Int))
(R1 (p2==(4:Int)) h)
(R1 (p2==(8:Int)) h)))))
def qbn_A:qbn_T:=qbn_G qbc_A
def qbn_W (f:qbn_T):aW [.c .p,.c (.i .u64),.c (.i .i64)] EnR:=λp0 p1 p2 K _Kp=>f p0 p1 p2 (λr0=>K (.int .i64 r0))
abbrev qbo_T:=Option Addr->Int->(Option Addr->AH->Prop)->AP
def qbo_A (p0:Option Addr) (p1:Int) (Q:Option Addr->AH->Prop) (h:AH):Prop:=
(aF p0 λa1=>
aM (add a1 2) h λmp2=>
qP h mp2 .i64 p1 λo3=>
∃ pt4:Option Addr,((o3.getD (.pointer none)):Value)=(.pointer pt4)/\
(∃ R5:Option Addr->AH->Prop,(∀ pt11:Option Addr,∀ h12,R5 pt11 h12->
Q pt11 h12)/\
(bsel pt4.isNone
(aT h (.cells (Array.replicate 4096 (.int .u8 (0:Int))) 326) λb6 h7=>
aF p0 λa8=>
aM (add a8 2) h7 λmp9=>
tH h7 mp9 .i64 p1 (.pointer (some (mk b6 0 none))) λh10=>
R5 (some (mk b6 0 none)) h10)
(R5 pt4 h))))
def qbo_W (f:qbo_T):aW [.c .p,.c (.i .i64)] EnR:=λp0 p1 K _Kp=>f p0 p1 (λr0=>K (.pointer r0))
abbrev qbp_T:=Option Addr->Int->Int->Int->(Int->AH->Prop)->AP
def qbp_G (f_qbn:qbn_T) (f_qbo:qbo_T) (p0:Option Addr) (p1:Int) (p2:Int) (p3:Int) (Q:Int->AH->Prop) (h:AH):Prop:=
(f_qbn p0 p1 p2 (λn1 h2=>
bsel (n1 != (0:Int))
(Q n1 h2)
(∃ I3:Int->Nat->AH->Prop,(∃ m4,I3 (0:Int) m4 h2)/\∀ x7:Int,∀ m4 h6,I3 x7 m4 h6->
bsel (decide (x7<p2))
(bsel (decide ((wrap .i64 ((8:Int)*x7))<0)) False
(f_qbo p0 (wrap .i64 (wrap .u64 (Int.tdiv (wrap .u64 (p1+(wrap .u64 x7))) (4096:Int)))) (λpt8 h9=>
aF pt8 λa10=>
bF (Int.tmod (wrap .u64 (p1+(wrap .u64 x7))) (4096:Int)) 4096
(aC (add a10 (toNat (Int.tmod (wrap .u64 (p1+(wrap .u64 x7))) (4096:Int))*1)) (.int .u8 (wrap .u8 (Int.fdiv p3 (2 ^ (min (toNat (wrap .i64 ((8:Int)*x7))) 64))))) h9 λh11=>
∃ m5,m5<m4/\I3 (wrap .i64 (x7+(1:Int))) m5 h11)) h6))
(Q (0:Int) h6))) h)
def qbp_A:qbp_T:=qbp_G qbn_A qbo_A
def qbp_W (f:qbp_T):aW [.c .p,.c (.i .u64),.c (.i .i64),.c (.i .u64)] EnR:=λp0 p1 p2 p3 K _Kp=>f p0 p1 p2 p3 (λr0=>K (.int .i64 r0))
abbrev qbq_T:=Option Addr->Option Addr->Option Addr->Int->Int->Int->Bool->Bool->Bool->Bool->Bool->Bool->Bool->Bool->Int->(AH->Prop)->AP
def qbq_G (f_qbl:qbl_T) (f_qbm:qbm_T) (f_qbp:qbp_T) (p0:Option Addr) (_p1:Option Addr) (_p2:Option Addr) (_p3:Int) (p4:Int) (p5:Int) (p6:Bool) (p7:Bool) (p8:Bool) (p9:Bool) (p10:Bool) (p11:Bool) (p12:Bool) (p13:Bool) (p14:Int) (Q:AH->Prop) (h:AH):Prop:=
(f_qbl p6 p7 p8 p9 p10 p11 p12 p13 p14 (λn1 _ h3=>
f_qbm p4 p5 (λn4 h5=>
f_qbp p0 n4 (8:Int) n1 (λ_ h7=>
Q h7) h5) h3) h)
def qbq_A:qbq_T:=qbq_G qbl_A qbm_A qbp_A
def qbq_W (f:qbq_T):aW [.agg [.p,.p,.p,(.i .i64)],.c (.i .i64),.c (.i .i64),.agg [.b,.b,.b,.b,.b,.b,.b,.b,(.i .i64)]] EnR:=λp0 p1 p2 p3 p4 p5 p6 p7 p8 p9 p10 p11 p12 p13 p14 K _Kp=>f p0 p1 p2 p3 p4 p5 p6 p7 p8 p9 p10 p11 p12 p13 p14 (K (.tuple #[]))
abbrev qbr_T:=Option Addr->Option Addr->Option Addr->Int->(Int->Int->AH->Prop)->AP
def qbr_G (f_qbg:qbg_T) (f_qbh:qbh_T) (f_qbi:qbi_T) (f_qbq:qbq_T) (p0:Option Addr) (p1:Option Addr) (p2:Option Addr) (p3:Int) (Q:Int->Int->AH->Prop) (h:AH):Prop:=
(f_qbg p0 p1 p2 p3 (λn1 n2 h3=>
bsel (n2 != (0:Int))
(Q (0:Int) n2 h3)
(aT h3 (.cells #[(.int .i64 n1)] 3) λb4 h5=>
∃ I6:Sl->Int->Nat->AH->Prop,(∃ m7,I6 (Sl.mk (some (mk b4 0 none)) 1 1) (0:Int) m7 h5)/\∀ s10:Sl,∀ x11:Int,∀ m7 h9,I6 s10 x11 m7 h9->
f_qbh p0 (λn12 h13=>
bsel (decide (x11<n12))
(f_qbg p0 p1 p2 p3 (λn14 n15 h16=>
bsel (n15 != (0:Int))
(∃ I17:Int->Nat->AH->Prop,(∃ m18,I17 (0:Int) m18 h16)/\∀ x21:Int,∀ m18 h20,I17 x21 m18 h20->
bsel (decide (x21<(Int.ofNat s10.len)))
(aF s10.a λa22=>
bF x21 s10.len
(aI .i64 (add a22 (toNat x21*1)) h20 λn23=>
f_qbi p0 p1 p2 p3 n23 (λh24=>
∃ m19,m19<m18/\I17 (wrap .i64 (x21+(1:Int))) m19 h24) h20))
(Q (0:Int) n15 h20))
(aT h16 (.cells #[(.int .i64 n14)] 3) λb25 h26=>
jZ 1 8 #[(.int .i64 (0:Int))] 3 s10 (Sl.mk (some (mk b25 0 none)) 1 1) h26 λs27 h28=>
f_qbq p0 p1 p2 p3 n1 (Int.fdiv x11 (2 ^ (18:Nat))) true true false false false false false false n14 (λh29=>
∃ I30:Int->Nat->AH->Prop,(∃ m31,I30 (0:Int) m31 h29)/\∀ x34:Int,∀ m31 h33,I30 x34 m31 h33->
bsel (decide (x34<(512:Int)))
(f_qbh p0 (λn35 h36=>
bsel (decide ((wrap .i64 (x11+(wrap .i64 (x34*2 ^ (9:Nat)))))<n35))
(f_qbq p0 p1 p2 p3 n14 x34 true true false false false true true true (wrap .i64 (x11+(wrap .i64 (x34*2 ^ (9:Nat))))) (λh37=>
∃ m32,m32<m31/\I30 (wrap .i64 (x34+(1:Int))) m32 h37) h36)
(∃ m8,m8<m7/\I6 s27 (wrap .i64 (x11+(262144:Int))) m8 h36)) h33)
(∃ m8,m8<m7/\I6 s27 (wrap .i64 (x11+(262144:Int))) m8 h33)) h28)) h13)
(Q n1 (0:Int) h13)) h9)) h)
def qbr_A:qbr_T:=qbr_G qbg_A qbh_A qbi_A qbq_A
def qbr_W (f:qbr_T):aW [.agg [.p,.p,.p,(.i .i64)]] EnR:=λp0 p1 p2 p3 K _Kp=>f p0 p1 p2 p3 (λr0 r1=>K (.tuple #[(.int .i64 r0),(.int .i64 r1)]))
abbrev qbs_T:=Int->Int->Int->Int->Sl->(Option Addr->Int->AH->Prop)->AP
def qbs_G (f_qam:qam_T) (f_qao:qao_T) (f_qap:qap_T) (f_qar:qar_T) (f_qas:qas_T) (f_qat:qat_T) (f_qau:qau_T) (f_qbr:qbr_T) (p0:Int) (p1:Int) (p2:Int) (p3:Int) (p4:Sl) (Q:Option Addr->Int->AH->Prop) (h:AH):Prop:=
(f_qam p4 p0 p1 p2 (λs1 n2 h3=>
bsel (n2 != (0:Int))
(Q none n2 h3)
(f_qao p3 (λpt4 n5 h6=>
bsel (n5 != (0:Int))
(Q none n5 h6)
(aT h6 (.cells #[(.bool false),(.int .i64 (0:Int)),(.int .i64 (0:Int)),(.int .i64 (0:Int)),(.bool false),(.bool false),(.bool false),(.bool false),(.bool false),(.bool false),(.int .i64 (0:Int)),(.int .i64 (0:Int)),(.int .i64 (0:Int)),(.bool false),(.bool false),(.bool false),(.bool false),(.bool false),(.bool false),(.int .i64 (0:Int)),(.int .i64 (0:Int)),(.int .i64 (0:Int)),(.bool false),(.bool false),(.bool false),(.bool false),(.bool false),(.bool false),(.int .i64 (0:Int)),(.int .i64 (0:Int)),(.int .i64 (0:Int)),(.bool false),(.bool false),(.bool false),(.bool false),(.bool false),(.bool false),(.int .i64 (0:Int)),(.int .i64 (0:Int)),(.int .i64 (0:Int)),(.bool false),(.bool false),(.bool false),(.bool false),(.bool false),(.bool false),(.int .i64 (0:Int)),(.int .i64 (0:Int)),(.int .i64 (0:Int)),(.bool false),(.bool false),(.bool false),(.bool false),(.bool false),(.bool false),(.int .i64 (0:Int)),(.int .i64 (0:Int)),(.int .i64 (0:Int)),(.bool false),(.bool false),(.bool false),(.bool false),(.bool false),(.bool false),(.int .i64 (0:Int)),(.int .i64 (0:Int)),(.int .i64 (0:Int)),(.bool false),(.bool false),(.bool false),(.bool false),(.bool false),(.bool false),(.int .i64 (0:Int)),(.int .i64 (0:Int)),(.int .i64 (0:Int)),(.bool false),(.bool false),(.bool false),(.bool false),(.bool false),(.bool false),(.int .i64 (0:Int)),(.int .i64 (0:Int)),(.int .i64 (0:Int)),(.bool false),(.bool false),(.bool false),(.bool false),(.bool false),(.bool false),(.int .i64 (0:Int)),(.int .i64 (0:Int)),(.int .i64 (0:Int)),(.bool false),(.bool false),(.bool false),(.bool false),(.bool false),(.bool false),(.int .i64 (0:Int)),(.int .i64 (0:Int)),(.int .i64 (0:Int)),(.bool false),(.bool false),(.bool false),(.bool false),(.bool false),(.bool false),(.int .i64 (0:Int)),(.int .i64 (0:Int)),(.int .i64 (0:Int)),(.bool false),(.bool false),(.bool false),(.bool false),(.bool false),(.bool false),(.int .i64 (0:Int)),(.int .i64 (0:Int)),(.int .i64 (0:Int)),(.bool false),(.bool false),(.bool false),(.bool false),(.bool false),(.bool false),(.int .i64 (0:Int)),(.int .i64 (0:Int)),(.int .i64 (0:Int)),(.bool false),(.bool false),(.bool false),(.bool false),(.bool false),(.bool false),(.int .i64 (0:Int)),(.int .i64 (0:Int)),(.int .i64 (0:Int)),(.bool false),(.bool false),(.bool false),(.bool false),(.bool false)] 139) λb7 h8=>
aT h8 (.map #[] 0) λb9 h10=>
aT h10 (.cells #[(.pointer none),(.pointer none),(.pointer none),(.pointer (some (mk b7 0 none))),(.pointer pt4),(.int .i64 (0:Int)),(.map (some b9))] 62) λb11 h12=>
f_qap p0 Sl.nil (λpt13 _ h15=>
aC (mk b11 0 none) (.pointer pt13) h15 λh16=>
f_qar s1 (λpt17 n18 h19=>
aC (add (mk b11 0 none) 1) (.pointer pt17) h19 λh20=>
bsel (n18 != (0:Int))
(Q none n18 h20)
(aP (add (mk b11 0 none) 1) h20 λpt21=>
f_qas pt21 (λn22 h23=>
f_qat n22 (λpt24 _ h26=>
aC (add (mk b11 0 none) 2) (.pointer pt24) h26 λh27=>
f_qau (some (mk b11 0 none)) (0:Int) (λpt28 pt29 pt30 n31 h32=>
f_qbr pt28 pt29 pt30 n31 (λn33 n34 h35=>
aC (add (mk b11 0 none) 5) (.int .i64 n33) h35 λh36=>
bsel (n34 != (0:Int))
(Q none n34 h36)
(Q (some (mk b11 0 none)) (0:Int) h36)) h32) h27) h23) h20)) h16) h12)) h3)) h)
def qbs_A:qbs_T:=qbs_G qam_A qao_A qap_A qar_A qas_A qat_A qau_A qbr_A
def qbs_W (f:qbs_T):aW [.agg [(.i .i64),(.i .i64),(.i .i64),(.i .i64),.s]] EnR:=λp0 p1 p2 p3 p4 K _Kp=>f p0 p1 p2 p3 p4 (λr0 r1=>K (.tuple #[(.pointer r0),(.int .i64 r1)]))
abbrev qbt_T:=Int->(Option Addr->Int->AH->Prop)->AP
def qbt_A (p0:Int) (Q:Option Addr->Int->AH->Prop) (h:AH):Prop:=
(bsel (decide (p0<(1:Int)))
(Q none (1:Int) h)
(bsel (decide (p0 > (1000:Int)))
(Q none (1:Int) h)
(aT h (.cells #[(.int .i64 p0),(.int .i64 (0:Int)),(.slice none 0 0)] 148) λb1 h2=>
Q (some (mk b1 0 none)) (0:Int) h2)))
def qbt_W (f:qbt_T):aW [.c (.i .i64)] EnR:=λp0 K _Kp=>f p0 (λr0 r1=>K (.tuple #[(.pointer r0),(.int .i64 r1)]))
abbrev qbu_T:=Option Addr->Sl->(Option Addr->AH->Prop)->AP
def qbu_A (p0:Option Addr) (p1:Sl) (Q:Option Addr->AH->Prop) (h:AH):Prop:=
(jZ 1 8 #[(.int .i64 (0:Int))] 3 Sl.nil p1 h λs1 h2=>
aT h2 (.cells #[(.pointer p0),(.slice s1.a s1.len s1.cap),(.int .i64 (0:Int))] 107) λb3 h4=>
Q (some (mk b3 0 none)) h4)
def qbu_W (f:qbu_T):aW [.c .p,.c .s] EnR:=λp0 p1 K _Kp=>f p0 p1 (λr0=>K (.pointer r0))
abbrev qbv_T:=Int->Int->Int->Int->Bool->(Bool->AH->Prop)->AP
def qbv_A (_p0:Int) (_p1:Int) (_p2:Int) (_p3:Int) (p4:Bool) (Q:Bool->AH->Prop) (h:AH):Prop:=
(Q (!p4) h)
def qbv_W (f:qbv_T):aW [.agg [(.i .i64),(.i .i64),(.i .i64),(.i .i64),.b]] EnR:=λp0 p1 p2 p3 p4 K _Kp=>f p0 p1 p2 p3 p4 (λr0=>K (.bool r0))
abbrev qbw_T:=Sl->(Int->AH->Prop)->AP
def qbw_G (f_qbv:qbv_T) (p0:Sl) (Q:Int->AH->Prop) (h:AH):Prop:=
(∃ I1:Int->Nat->AH->Prop,(∃ m2,I1 (0:Int) m2 h)/\∀ x5:Int,∀ m2 h4,I1 x5 m2 h4->
bsel (decide (x5<(Int.ofNat p0.len)))
(aF p0.a λa6=>
bF x5 p0.len
(aI .i64 (add a6 (toNat x5*5)) h4 λn7=>
aI .i64 (add (add a6 (toNat x5*5)) 1) h4 λn8=>
aI .i64 (add (add a6 (toNat x5*5)) 2) h4 λn9=>
aI .i64 (add (add a6 (toNat x5*5)) 3) h4 λn10=>
aB (add (add a6 (toNat x5*5)) 4) h4 λb11=>
f_qbv n7 n8 n9 n10 b11 (λb12 h13=>
bsel b12
(Q x5 h13)
(∃ m3,m3<m2/\I1 (wrap .i64 (x5+(1:Int))) m3 h13)) h4))
(Q (-1:Int) h4))
def qbw_A:qbw_T:=qbw_G qbv_A
def qbw_W (f:qbw_T):aW [.c .s,.fn 92 [] []] EnR:=λp0 K _Kp=>f p0 (λr0=>K (.int .i64 r0))
abbrev qbx_T:=Sl->(Sl->AH->Prop)->AP
def qbx_A (p0:Sl) (Q:Sl->AH->Prop) (h:AH):Prop:=
(bsel (Option.isNone p0.a)
(Q Sl.nil h)
(aT h (.cells #[] 104) λb1 h2=>
jZ 5 40 #[(.int .i64 (0:Int)),(.int .i64 (0:Int)),(.int .i64 (0:Int)),(.int .i64 (0:Int)),(.bool false)] 104 (Sl.mk (some (mk b1 0 none)) 0 0) p0 h2 λs3 h4=>
Q s3 h4))
def qbx_W (f:qbx_T):aW [.c .s] EnR:=λp0 K _Kp=>f p0 (λr0=>K (.slice r0.a r0.len r0.cap))
abbrev qby_T:=Option Addr->Int->Int->(Int->Int->AH->Prop)->AP
def qby_G (f_qav:qav_T) (f_qaw:qaw_T) (f_qbw:qbw_T) (f_qbx:qbx_T) (p0:Option Addr) (p1:Int) (p2:Int) (Q:Int->Int->AH->Prop) (h:AH):Prop:=
(f_qav p0 p1 (λpt1 b2 h3=>
bsel (!b2)
(Q (0:Int) (5:Int) h3)
(bsel (decide (p2<(0:Int)))
(Q (0:Int) (1:Int) h3)
(f_qaw p0 p1 (λn4 h5=>
bsel (decide (p2 > n4))
(Q (0:Int) (8:Int) h5)
(aF p0 λa6=>
aS a6 h5 λs7=>
f_qbw s7 (λn8 h9=>
∃ R10:AH->Prop,(∀ h13,R10 h13->
aF pt1 λa14=>
aI .i64 (add a14 3) h13 λn15=>
aF pt1 λa16=>
aC (add a16 3) (.int .i64 (wrap .i64 (n15+p2))) h13 λh17=>
bsel (decide (n8<(0:Int)))
(aF p0 λa18=>
aS a18 h17 λs19=>
(f_qbx s19 (λs20 h21=>
aT h21 (.cells #[(.int .i64 p1),(.int .i64 p2),(.int .i64 (0:Int)),(.int .i64 (0:Int)),(.bool (true:Bool))] 104) λb22 h23=>
jZ 5 40 #[(.int .i64 (0:Int)),(.int .i64 (0:Int)),(.int .i64 (0:Int)),(.int .i64 (0:Int)),(.bool false)] 104 s20 (Sl.mk (some (mk b22 0 none)) 1 1) h23 λs24 h25=>
aF p0 λa26=>
aC a26 (.slice s24.a s24.len s24.cap) h25 λh27=>
aF p0 λa28=>
aS a28 h27 λs29=>
Q (wrap .i64 ((Int.ofNat s29.len)-(1:Int))) (0:Int) h27) h17)/\
(aT h17 (.cells #[(.int .i64 p1),(.int .i64 p2),(.int .i64 (0:Int)),(.int .i64 (0:Int)),(.bool (true:Bool))] 104) λb30 h31=>
(aS a18 h31 λs32=>
((.slice s32.a s32.len s32.cap):Value)=(.slice s19.a s19.len s19.cap))/\
(f_qbx s19 (λs33 h34=>
jZ 5 40 #[(.int .i64 (0:Int)),(.int .i64 (0:Int)),(.int .i64 (0:Int)),(.int .i64 (0:Int)),(.bool false)] 104 s33 (Sl.mk (some (mk b30 0 none)) 1 1) h34 λs35 h36=>
aF p0 λa37=>
aC a37 (.slice s35.a s35.len s35.cap) h36 λh38=>
aF p0 λa39=>
aS a39 h38 λs40=>
Q (wrap .i64 ((Int.ofNat s40.len)-(1:Int))) (0:Int) h38) h31)))
(aF p0 λa41=>
aS a41 h17 λs42=>
aF s42.a λa43=>
bF n8 s42.len
(aC (add a43 (toNat n8*5)) (.int .i64 p1) h17 λh44=>
aC (add (add a43 (toNat n8*5)) 1) (.int .i64 p2) h44 λh45=>
aC (add (add a43 (toNat n8*5)) 2) (.int .i64 (0:Int)) h45 λh46=>
aC (add (add a43 (toNat n8*5)) 3) (.int .i64 (0:Int)) h46 λh47=>
aC (add (add a43 (toNat n8*5)) 4) (.bool (true:Bool)) h47 λh48=>
Q n8 (0:Int) h48)))/\
(bsel (decide (n8<(0:Int)))
(aF p0 λa11=>
aS a11 h9 λs12=>
bsel (decide ((Int.ofNat s12.len)>=(64:Int)))
(Q (0:Int) (4:Int) h9)
(R10 h9))
(R10 h9))) h5)) h3))) h)
def qby_A:qby_T:=qby_G qav_A qaw_A qbw_A qbx_A
def qby_W (f:qby_T):aW [.c .p,.c (.i .i64),.c (.i .i64)] EnR:=λp0 p1 p2 K _Kp=>f p0 p1 p2 (λr0 r1=>K (.tuple #[(.int .i64 r0),(.int .i64 r1)]))
abbrev qbz_T:=Option Addr->Option Addr->Option Addr->Int->Int->(Int->Int->AH->Prop)->AP
def qbz_G (f_qbg:qbg_T) (f_qbq:qbq_T) (p0:Option Addr) (p1:Option Addr) (p2:Option Addr) (p3:Int) (p4:Int) (Q:Int->Int->AH->Prop) (h:AH):Prop:=
(f_qbg p0 p1 p2 p3 (λn1 n2 h3=>
bsel (n2 != (0:Int))
(Q (0:Int) n2 h3)
(f_qbq p0 p1 p2 p3 n1 (256:Int) true true false false false false false false p4 (λh4=>
Q n1 (0:Int) h4) h3)) h)
def qbz_A:qbz_T:=qbz_G qbg_A qbq_A
def qbz_W (f:qbz_T):aW [.agg [.p,.p,.p,(.i .i64)],.c (.i .i64)] EnR:=λp0 p1 p2 p3 p4 K _Kp=>f p0 p1 p2 p3 p4 (λr0 r1=>K (.tuple #[(.int .i64 r0),(.int .i64 r1)]))
abbrev qca_T:=Option Addr->Int->Int->(Int->AH->Prop)->AP
def qca_G (f_qau:qau_T) (f_qbz:qbz_T) (p0:Option Addr) (p1:Int) (p2:Int) (Q:Int->AH->Prop) (h:AH):Prop:=
(bsel (decide (p1<(0:Int)))
(Q (1:Int) h)
(aF p0 λa1=>
aM (add a1 6) h λmp2=>
qP h mp2 .i64 p1 λo3=>
∃ pt4:Option Addr,((o3.getD (.pointer none)):Value)=(.pointer pt4)/\
(bsel (!pt4.isNone)
(Q (6:Int) h)
(aF p0 λa5=>
aI .i64 (add a5 5) h λn6=>
f_qau p0 p2 (λpt7 pt8 pt9 n10 h11=>
(aI .i64 (add a5 5) h11 λn12=>
((.int .i64 n12):Value)=(.int .i64 n6))/\
(f_qbz pt7 pt8 pt9 n10 n6 (λn13 n14 h15=>
bsel (n14 != (0:Int))
(Q n14 h15)
(aF p0 λa16=>
aM (add a16 6) h15 λmp17=>
aT h15 (.map #[] 0) λb18 h19=>
aT h19 (.cells #[(.int .i64 p2),(.int .i64 n13),(.slice none 0 0),(.map (some b18))] 129) λb20 h21=>
tH h21 mp17 .i64 p1 (.pointer (some (mk b20 0 none))) λh22=>
Q (0:Int) h22)) h11)) h))))
def qca_A:qca_T:=qca_G qau_A qbz_A
def qca_W (f:qca_T):aW [.c .p,.c (.i .i64),.c (.i .i64)] EnR:=λp0 p1 p2 K _Kp=>f p0 p1 p2 (λr0=>K (.int .i64 r0))
abbrev qcb_T:=Int->Int->Int->Int->Bool->Option Addr->(Bool->AH->Prop)->AP
def qcb_A (p0:Int) (_p1:Int) (_p2:Int) (_p3:Int) (p4:Bool) (p5:Option Addr) (Q:Bool->AH->Prop) (h:AH):Prop:=
(bsel p4
(aF p5 λa1=>
aI .i64 a1 h λn2=>
Q (p0==n2) h)
(Q false h))
def qcb_W (f:qcb_T):aW [.agg [(.i .i64),(.i .i64),(.i .i64),(.i .i64),.b],.c .p] EnR:=λp0 p1 p2 p3 p4 p5 K _Kp=>f p0 p1 p2 p3 p4 p5 (λr0=>K (.bool r0))
abbrev qcc_T:=Sl->Option Addr->(Int->AH->Prop)->AP
def qcc_G (f_qcb:qcb_T) (p0:Sl) (p1:Option Addr) (Q:Int->AH->Prop) (h:AH):Prop:=
(∃ I1:Int->Nat->AH->Prop,(∃ m2,I1 (0:Int) m2 h)/\∀ x5:Int,∀ m2 h4,I1 x5 m2 h4->
bsel (decide (x5<(Int.ofNat p0.len)))
(aF p0.a λa6=>
bF x5 p0.len
(aI .i64 (add a6 (toNat x5*5)) h4 λn7=>
aI .i64 (add (add a6 (toNat x5*5)) 1) h4 λn8=>
aI .i64 (add (add a6 (toNat x5*5)) 2) h4 λn9=>
aI .i64 (add (add a6 (toNat x5*5)) 3) h4 λn10=>
aB (add (add a6 (toNat x5*5)) 4) h4 λb11=>
f_qcb n7 n8 n9 n10 b11 p1 (λb12 h13=>
bsel b12
(Q x5 h13)
(∃ m3,m3<m2/\I1 (wrap .i64 (x5+(1:Int))) m3 h13)) h4))
(Q (-1:Int) h4))
def qcc_A:qcc_T:=qcc_G qcb_A
def qcc_W (f:qcc_T):aW [.c .s,.fn 95 [] [.p]] EnR:=λp0 p1 K _Kp=>f p0 p1 (λr0=>K (.int .i64 r0))
abbrev qcd_T:=Sl->Option Addr->(Bool->AH->Prop)->AP
def qcd_G (f_qcc:qcc_T) (p0:Sl) (p1:Option Addr) (Q:Bool->AH->Prop) (h:AH):Prop:=
(f_qcc p0 p1 (λn1 h2=>
Q (decide (n1>=(0:Int))) h2) h)
def qcd_A:qcd_T:=qcd_G qcc_A
def qcd_W (f:qcd_T):aW [.c .s,.fn 95 [] [.p]] EnR:=λp0 p1 K _Kp=>f p0 p1 (λr0=>K (.bool r0))
abbrev qce_T:=Option Addr->Int->(Int->AH->Prop)->AP
def qce_G (f_qav:qav_T) (f_qcd:qcd_T) (p0:Option Addr) (p1:Int) (Q:Int->AH->Prop) (h:AH):Prop:=
(aT h (.cells #[(.int .i64 p1)] 3) λb1 h2=>
aI .i64 (mk b1 0 none) h2 λn3=>
f_qav p0 n3 (λpt4 b5 h6=>
∃ R7:AH->Prop,(∀ h9,R7 h9->
aF pt4 λa10=>
aI .i64 (add a10 2) h9 λn11=>
bsel (decide (n11 > (0:Int)))
(Q (11:Int) h9)
(aF p0 λa12=>
aS a12 h9 λs13=>
f_qcd s13 (some (mk b1 0 none)) (λb14 h15=>
bsel b14
(Q (11:Int) h15)
(aF p0 λa16=>
aS a16 h15 λs17=>
aF pt4 λa18=>
aI .i64 a18 h15 λn19=>
aF s17.a λa20=>
bF n19 s17.len
(aI .i64 (add (add a20 (toNat n19*5)) 3) h15 λn21=>
aF pt4 λa22=>
aI .i64 (add a22 1) h15 λn23=>
aF s17.a λa24=>
bF n19 s17.len
(aC (add (add a24 (toNat n19*5)) 3) (.int .i64 (wrap .i64 (n21-n23))) h15 λh25=>
aF pt4 λa26=>
aC a26 (.int .i64 (0:Int)) h25 λh27=>
aC (add a26 1) (.int .i64 (0:Int)) h27 λh28=>
aC (add a26 2) (.int .i64 (0:Int)) h28 λh29=>
aC (add a26 3) (.int .i64 (0:Int)) h29 λh30=>
aC (add a26 4) (.bool false) h30 λh31=>
Q (0:Int) h31)))) h9))/\
(bsel (!b5)
(Q (5:Int) h6)
(aI .i64 (mk b1 0 none) h6 λn8=>
bsel (n8==(0:Int))
(Q (5:Int) h6)
(R7 h6)))) h2)
def qce_A:qce_T:=qce_G qav_A qcd_A
def qce_W (f:qce_T):aW [.c .p,.c (.i .i64)] EnR:=λp0 p1 K _Kp=>f p0 p1 (λr0=>K (.int .i64 r0))
abbrev qcf_T:=Sl->Int->(Int->AH->Prop)->AP
def qcf_A (p0:Sl) (p1:Int) (Q:Int->AH->Prop) (h:AH):Prop:=
(∃ I1:Int->Nat->AH->Prop,(∃ m2,I1 (0:Int) m2 h)/\∀ x5:Int,∀ m2 h4,I1 x5 m2 h4->
bsel (decide (x5<(Int.ofNat p0.len)))
(aF p0.a λa6=>
bF x5 p0.len
(aI .i64 (add a6 (toNat x5*1)) h4 λn7=>
bsel (p1==n7)
(Q x5 h4)
(∃ m3,m3<m2/\I1 (wrap .i64 (x5+(1:Int))) m3 h4)))
(Q (-1:Int) h4))
def qcf_W (f:qcf_T):aW [.c .s,.c (.i .i64)] EnR:=λp0 p1 K _Kp=>f p0 p1 (λr0=>K (.int .i64 r0))
abbrev qcg_T:=Sl->Int->(Bool->AH->Prop)->AP
def qcg_G (f_qcf:qcf_T) (p0:Sl) (p1:Int) (Q:Bool->AH->Prop) (h:AH):Prop:=
(f_qcf p0 p1 (λn1 h2=>
Q (decide (n1>=(0:Int))) h2) h)
def qcg_A:qcg_T:=qcg_G qcf_A
def qcg_W (f:qcg_T):aW [.c .s,.c (.i .i64)] EnR:=λp0 p1 K _Kp=>f p0 p1 (λr0=>K (.bool r0))
abbrev qch_T:=Sl->(Sl->AH->Prop)->AP
def qch_A (p0:Sl) (Q:Sl->AH->Prop) (h:AH):Prop:=
(bsel (Option.isNone p0.a)
(Q Sl.nil h)
(aT h (.cells #[] 3) λb1 h2=>
jZ 1 8 #[(.int .i64 (0:Int))] 3 (Sl.mk (some (mk b1 0 none)) 0 0) p0 h2 λs3 h4=>
Q s3 h4))
def qch_W (f:qch_T):aW [.c .s] EnR:=λp0 K _Kp=>f p0 (λr0=>K (.slice r0.a r0.len r0.cap))
abbrev qci_T:=Option Addr->Int->(Int->AH->Prop)->AP
def qci_G (f_qcg:qcg_T) (f_qch:qch_T) (p0:Option Addr) (p1:Int) (Q:Int->AH->Prop) (h:AH):Prop:=
(∃ R1:Bool->AH->Prop,(∀ b2:Bool,∀ h3,R1 b2 h3->
bsel b2
(Q (1:Int) h3)
(aF p0 λa4=>
aS (add a4 2) h3 λs5=>
f_qcg s5 p1 (λb6 h7=>
bsel b6
(Q (6:Int) h7)
(aF p0 λa8=>
aS (add a8 2) h7 λs9=>
f_qch s9 (λs10 h11=>
aT h11 (.cells #[(.int .i64 p1)] 3) λb12 h13=>
jZ 1 8 #[(.int .i64 (0:Int))] 3 s10 (Sl.mk (some (mk b12 0 none)) 1 1) h13 λs14 h15=>
aF p0 λa16=>
aC (add a16 2) (.slice s14.a s14.len s14.cap) h15 λh17=>
Q (0:Int) h17) h7)) h3))/\
(bsel (decide (p1<(0:Int)))
(R1 (decide (p1<(0:Int))) h)
(R1 (decide (p1>=(16:Int))) h)))
def qci_A:qci_T:=qci_G qcg_A qch_A
def qci_W (f:qci_T):aW [.c .p,.c (.i .i64)] EnR:=λp0 p1 K _Kp=>f p0 p1 (λr0=>K (.int .i64 r0))
abbrev qcj_T:=Option Addr->Int->Int->Int->(Int->Int->AH->Prop)->AP
def qcj_G (f_qby:qby_T) (f_qca:qca_T) (f_qce:qce_T) (f_qci:qci_T) (p0:Option Addr) (p1:Int) (p2:Int) (p3:Int) (Q:Int->Int->AH->Prop) (h:AH):Prop:=
(∃ I1:Int->Nat->AH->Prop,(∃ m2,I1 (0:Int) m2 h)/\∀ x5:Int,∀ m2 h4,I1 x5 m2 h4->
aF p0 λa6=>
aM (add a6 3) h4 λmp7=>
qP h4 mp7 .i64 x5 λo8=>
∃ pt9:Option Addr,((o8.getD (.pointer none)):Value)=(.pointer pt9)/\
(bsel (!pt9.isNone)
(∃ m3,m3<m2/\I1 (wrap .i64 (x5+(1:Int))) m3 h4)
(bsel (decide (x5>=(16:Int)))
(Q (0:Int) (4:Int) h4)
(aF p0 λa10=>
aP a10 h4 λpt11=>
aF pt11 λa12=>
aP a12 h4 λpt13=>
aF pt13 λa14=>
aP (add a14 2) h4 λpt15=>
f_qby pt15 p2 p3 (λn16 n17 h18=>
bsel (n17 != (0:Int))
(Q (0:Int) n17 h18)
(aF p0 λa19=>
aP a19 h18 λpt20=>
aF pt20 λa21=>
aP a21 h18 λpt22=>
aF p0 λa23=>
aI .i64 (add a23 4) h18 λn24=>
f_qca pt22 n24 n16 (λn25 h26=>
bsel (n25 != (0:Int))
(f_qce pt15 n16 (λ_ h28=>
Q (0:Int) n25 h28) h26)
(aF p0 λa29=>
aF p0 λa30=>
aM (add a29 3) h26 λmp31=>
aI .i64 (add a30 4) h26 λn32=>
aT h26 (.cells #[(.int .i64 n16),(.int .i64 n32),(.int .i64 p1),(.int .u64 (0:Int)),(.int .u64 (0:Int)),(.int .u64 (0:Int)),(.int .u64 (0:Int)),(.int .i64 (0:Int)),(.int .u64 (0:Int)),(.bool false),(.int .u64 (0:Int)),(.int .i64 (0:Int)),(.int .u64 (0:Int)),(.int .u64 (0:Int)),(.int .u64 (0:Int)),(.int .u64 (0:Int))] 110) λb33 h34=>
(aM (add a29 3) h34 λmp35=>
((.map mp35):Value)=(.map mp31))/\
(tH h34 mp31 .i64 x5 (.pointer (some (mk b33 0 none))) λh36=>
aF p0 λa37=>
aI .i64 (add a37 4) h36 λn38=>
aF p0 λa39=>
aC (add a39 4) (.int .i64 (wrap .i64 (n38+(1:Int)))) h36 λh40=>
aF p0 λa41=>
aP (add a41 1) h40 λpt42=>
f_qci pt42 x5 (λ_ h44=>
Q x5 (0:Int) h44) h40))) h18)) h4))))
def qcj_A:qcj_T:=qcj_G qby_A qca_A qce_A qci_A
def qcj_W (f:qcj_T):aW [.c .p,.c (.i .i64),.c (.i .i64),.c (.i .i64)] EnR:=λp0 p1 p2 p3 K _Kp=>f p0 p1 p2 p3 (λr0 r1=>K (.tuple #[(.int .i64 r0),(.int .i64 r1)]))
abbrev qck_T:=Int->Int->Int->Int->Sl->Int->Sl->(Option Addr->Int->AH->Prop)->AP
def qck_G (f_qbs:qbs_T) (f_qbt:qbt_T) (f_qbu:qbu_T) (f_qaw:qaw_T) (f_qcj:qcj_T) (p0:Int) (p1:Int) (p2:Int) (p3:Int) (p4:Sl) (p5:Int) (p6:Sl) (Q:Option Addr->Int->AH->Prop) (h:AH):Prop:=
(f_qbs p0 p1 p2 p3 p4 (λpt1 n2 h3=>
bsel (n2 != (0:Int))
(Q none n2 h3)
(f_qbt p5 (λpt4 n5 h6=>
bsel (n5 != (0:Int))
(Q none n5 h6)
(f_qbu pt1 p6 (λpt7 h8=>
aT h8 (.map #[] 0) λb9 h10=>
aT h10 (.cells #[(.pointer pt7),(.pointer pt4),(.map none),(.map (some b9)),(.int .i64 (0:Int))] 74) λb11 h12=>
aF pt1 λa13=>
aP (add a13 2) h12 λpt14=>
f_qaw pt14 (0:Int) (λn15 h16=>
f_qcj (some (mk b11 0 none)) (0:Int) (0:Int) n15 (λ_ n18 h19=>
bsel (n18 != (0:Int))
(Q none n18 h19)
(Q (some (mk b11 0 none)) (0:Int) h19)) h16) h12) h6)) h3)) h)
def qck_A:qck_T:=qck_G qbs_A qbt_A qbu_A qaw_A qcj_A
def qck_W (f:qck_T):aW [.agg [(.i .i64),(.i .i64),(.i .i64),(.i .i64),.s,(.i .i64),.s]] EnR:=λp0 p1 p2 p3 p4 p5 p6 K _Kp=>f p0 p1 p2 p3 p4 p5 p6 (λr0 r1=>K (.tuple #[(.pointer r0),(.int .i64 r1)]))
abbrev qcl_T:=Option Addr->(Int->Bool->AH->Prop)->AP
def qcl_A (p0:Option Addr) (Q:Int->Bool->AH->Prop) (h:AH):Prop:=
(aF p0 λa1=>
aS (add a1 2) h λs2=>
bsel ((Int.ofNat s2.len)==(0:Int))
(Q (0:Int) false h)
(aF p0 λa3=>
aS (add a3 2) h λs4=>
aF s4.a λa5=>
bF (0:Int) s4.len
(aI .i64 a5 h λn6=>
Q n6 true h)))
def qcl_W (f:qcl_T):aW [.c .p] EnR:=λp0 K _Kp=>f p0 (λr0 r1=>K (.tuple #[(.int .i64 r0),(.bool r1)]))
abbrev qcm_T:=Option Addr->Int->(Int->AH->Prop)->(Value->AP)->AP
def qcm_A (p0:Option Addr) (p1:Int) (Q:Int->AH->Prop) (Kp:Value->AP) (h:AH):Prop:=
(aF p0 λa1=>
aS a1 h λs2=>
aF s2.a λa3=>
bF (0:Int) s2.len
(aI .u64 a3 h λn4=>
∃ R5:AH->Prop,(∀ h10,R5 h10->
Q n4 h10)/\
(aF p0 λa6=>
aS a6 h λs7=>
bF (1:Int) (s7.len+1)
(aF p0 λa8=>
aC a8 (.slice (if s7.cap=1 then s7.a else Option.map (λx=>add x (1*1)) s7.a) (s7.len-1) (s7.cap-1)) h λh9=>
bsel (decide (n4 > p1))
(Kp (.iface 158 (.agg #[])) h9)
(R5 h9)))))
def qcm_W (f:qcm_T):aW [.c .p,.c (.i .u64)] EnR:=λp0 p1 K Kp=>f p0 p1 (λr0=>K (.int .u64 r0)) Kp
abbrev qcn_T:=Option Addr->Int->(Int->AH->Prop)->(Value->AP)->AP
def qcn_G (f_qcm:qcm_T) (p0:Option Addr) (p1:Int) (Q:Int->AH->Prop) (Kp:Value->AP) (h:AH):Prop:=
(f_qcm p0 (wrap .u64 (wrap .i64 (p1-(1:Int)))) (λn1 h2=>
Q (wrap .i64 n1) h2) (λv3 h4=>Kp v3 h4) h)
def qcn_A:qcn_T:=qcn_G qcm_A
def qcn_W (f:qcn_T):aW [.c .p,.c (.i .i64)] EnR:=λp0 p1 K Kp=>f p0 p1 (λr0=>K (.int .i64 r0)) Kp
abbrev qco_T:=Option Addr->(Int->Int->AH->Prop)->(Value->AP)->AP
def qco_G (f_qcn:qcn_T) (p0:Option Addr) (Q:Int->Int->AH->Prop) (Kp:Value->AP) (h:AH):Prop:=
(f_qcn p0 (34359738368:Int) (λn1 h2=>
f_qcn p0 (65537:Int) (λn5 h6=>
∃ R9:AH->Prop,(∀ h10,R9 h10->
Q n1 ((wrap .i64 ((wrap .i64 ((wrap .i64 (n1+(1:Int)))+n5))-(1:Int))):Int) h10)/\
(bsel (((wrap .i64 ((wrap .i64 ((wrap .i64 (n1+(1:Int)))+n5))-(1:Int))):Int)==n1)
(Kp (.iface 158 (.agg #[])) h6)
(bsel (decide (((wrap .i64 ((wrap .i64 ((wrap .i64 (n1+(1:Int)))+n5))-(1:Int))):Int) > (34359738368:Int)))
(Kp (.iface 158 (.agg #[])) h6)
(R9 h6)))) (λv7 h8=>Kp v7 h8) h2) (λv3 h4=>Kp v3 h4) h)
def qco_A:qco_T:=qco_G qcn_A
def qco_W (f:qco_T):aW [.c .p] EnR:=λp0 K Kp=>f p0 (λr0 r1=>K (.agg #[(.int .i64 r0),(.int .i64 r1)])) Kp
abbrev qcp_T:=Option Addr->(Bool->Bool->Bool->AH->Prop)->(Value->AP)->AP
def qcp_G (f_qcm:qcm_T) (p0:Option Addr) (Q:Bool->Bool->Bool->AH->Prop) (Kp:Value->AP) (h:AH):Prop:=
(f_qcm p0 (3:Int) (λn1 h2=>
Q (((bits .and .u64 n1 (1:Int))==(1:Int)):Bool) (true:Bool) (((bits .and .u64 n1 (2:Int))==(2:Int)):Bool) h2) (λv3 h4=>Kp v3 h4) h)
def qcp_A:qcp_T:=qcp_G qcm_A
def qcp_W (f:qcp_T):aW [.c .p] EnR:=λp0 K Kp=>f p0 (λr0 r1 r2=>K (.agg #[(.bool r0),(.bool r1),(.bool r2)])) Kp
abbrev qcq_T:=Option Addr->Option Addr->(AH->Prop)->(Value->AP)->AP
def qcq_G (f_qcm:qcm_T) (f_qcn:qcn_T) (p0:Option Addr) (p1:Option Addr) (Q:AH->Prop) (Kp:Value->AP) (h:AH):Prop:=
(f_qcm p0 (140737488355327:Int) (λn1 h2=>
aF p1 λa5=>
aC (add a5 6) (.int .u64 n1) h2 λh6=>
f_qcn p0 (9:Int) (λn7 h8=>
aF p1 λa11=>
aC (add a11 7) (.int .i64 n7) h8 λh12=>
aF p1 λa13=>
aI .i64 (add a13 7) h12 λn14=>
aF p1 λa15=>
aI .i64 (add a15 7) h12 λn16=>
bsel ((bits .and .i64 n14 (wrap .i64 (n16-(1:Int)))) != (0:Int))
(Kp (.iface 158 (.agg #[])) h12)
(aF p1 λa17=>
aI .i64 (add a17 7) h12 λn18=>
bsel (n18==(0:Int))
(Kp (.iface 158 (.agg #[])) h12)
(aF p1 λa19=>
aI .u64 (add a19 6) h12 λn20=>
aF p1 λa21=>
aI .i64 (add a21 7) h12 λn22=>
bsel ((wrap .u64 n22)==0) False
(bsel ((Int.tmod n20 (wrap .u64 n22)) != (0:Int))
(Kp (.iface 158 (.agg #[])) h12)
(Q h12))))) (λv9 h10=>Kp v9 h10) h6) (λv3 h4=>Kp v3 h4) h)
def qcq_A:qcq_T:=qcq_G qcm_A qcn_A
def qcq_W (f:qcq_T):aW [.c .p,.c .p] EnR:=λp0 p1 K Kp=>f p0 p1 (K (.tuple #[])) Kp
abbrev qcr_T:=Option Addr->(Int->Int->AH->Prop)->(Value->AP)->AP
def qcr_G (f_qcn:qcn_T) (p0:Option Addr) (Q:Int->Int->AH->Prop) (Kp:Value->AP) (h:AH):Prop:=
(f_qcn p0 (34359738368:Int) (λn1 h2=>
Q n1 ((wrap .i64 (n1+(1:Int))):Int) h2) (λv3 h4=>Kp v3 h4) h)
def qcr_A:qcr_T:=qcr_G qcn_A
def qcr_W (f:qcr_T):aW [.c .p] EnR:=λp0 K Kp=>f p0 (λr0 r1=>K (.agg #[(.int .i64 r0),(.int .i64 r1)])) Kp
abbrev qcs_T:=Option Addr->(Int->Int->Int->Bool->Bool->Bool->Int->Int->Int->Int->Int->Int->Int->AH->Prop)->(Value->AP)->AP
def qcs_G (f_qcn:qcn_T) (f_qco:qco_T) (f_qcp:qcp_T) (f_qcq:qcq_T) (f_qcm:qcm_T) (f_qcr:qcr_T) (p0:Option Addr) (Q:Int->Int->Int->Bool->Bool->Bool->Int->Int->Int->Int->Int->Int->Int->AH->Prop) (Kp:Value->AP) (h:AH):Prop:=
(f_qcn p0 (17:Int) (λn1 h2=>
aT h2 (.cells #[(.int .i64 (0:Int)),(.int .i64 (0:Int)),(.int .i64 (0:Int)),(.bool false),(.bool false),(.bool false),(.int .u64 (0:Int)),(.int .i64 (0:Int)),(.int .u64 (0:Int)),(.int .i64 (0:Int)),(.int .i64 (0:Int)),(.int .i64 (0:Int)),(.int .i64 (0:Int))] 96) λb5 h6=>
aC (mk b5 0 none) (.int .i64 n1) h6 λh7=>
aC (add (mk b5 0 none) 1) (.int .i64 (0:Int)) h7 λh8=>
aC (add (mk b5 0 none) 2) (.int .i64 (0:Int)) h8 λh9=>
aC (add (mk b5 0 none) 3) (.bool false) h9 λh10=>
aC (add (mk b5 0 none) 4) (.bool false) h10 λh11=>
aC (add (mk b5 0 none) 5) (.bool false) h11 λh12=>
aC (add (mk b5 0 none) 6) (.int .u64 (0:Int)) h12 λh13=>
aC (add (mk b5 0 none) 7) (.int .i64 (0:Int)) h13 λh14=>
aC (add (mk b5 0 none) 8) (.int .u64 (0:Int)) h14 λh15=>
aC (add (mk b5 0 none) 9) (.int .i64 (0:Int)) h15 λh16=>
aC (add (mk b5 0 none) 10) (.int .i64 (0:Int)) h16 λh17=>
aC (add (mk b5 0 none) 11) (.int .i64 (0:Int)) h17 λh18=>
aC (add (mk b5 0 none) 12) (.int .i64 (0:Int)) h18 λh19=>
∃ R20:AH->Prop,(∀ h142,R20 h142->
aF p0 λa143=>
aS a143 h142 λs144=>
∃ I145:Int->Nat->AH->Prop,(∃ m146,I145 (0:Int) m146 h142)/\∀ x149:Int,∀ m146 h148,I145 x149 m146 h148->
bsel (decide (x149<(Int.ofNat s144.len)))
(f_qcm p0 (0:Int) (λ_ h151=>
∃ m147,m147<m146/\I145 (wrap .i64 (x149+(1:Int))) m147 h151) (λv152 h153=>Kp v152 h153) h148)
(aI .i64 (mk b5 0 none) h148 λn154=>
aI .i64 (add (mk b5 0 none) 1) h148 λn155=>
aI .i64 (add (mk b5 0 none) 2) h148 λn156=>
aB (add (mk b5 0 none) 3) h148 λb157=>
aB (add (mk b5 0 none) 4) h148 λb158=>
aB (add (mk b5 0 none) 5) h148 λb159=>
aI .u64 (add (mk b5 0 none) 6) h148 λn160=>
aI .i64 (add (mk b5 0 none) 7) h148 λn161=>
aI .u64 (add (mk b5 0 none) 8) h148 λn162=>
aI .i64 (add (mk b5 0 none) 9) h148 λn163=>
aI .i64 (add (mk b5 0 none) 10) h148 λn164=>
aI .i64 (add (mk b5 0 none) 11) h148 λn165=>
aI .i64 (add (mk b5 0 none) 12) h148 λn166=>
Q n154 n155 n156 b157 b158 b159 n160 n161 n162 n163 n164 n165 n166 h148))/\
(aI .i64 (mk b5 0 none) h19 λn21=>
∃ R22:Bool->AH->Prop,(∀ b23:Bool,∀ h24,R22 b23 h24->
bsel b23
(f_qco p0 (λn25 n26 h27=>
f_qcp p0 (λb30 b31 b32 h33=>
aC (add (mk b5 0 none) 1) (.int .i64 n25) h33 λh36=>
aC (add (add (mk b5 0 none) 1) 1) (.int .i64 n26) h36 λh37=>
aC (add (mk b5 0 none) 3) (.bool b30) h37 λh38=>
aC (add (add (mk b5 0 none) 3) 1) (.bool b31) h38 λh39=>
aC (add (add (mk b5 0 none) 3) 2) (.bool b32) h39 λh40=>
R20 h40) (λv34 h35=>Kp v34 h35) h27) (λv28 h29=>Kp v28 h29) h24)
(bsel (n21==(2:Int))
(f_qco p0 (λn41 n42 h43=>
aC (add (mk b5 0 none) 1) (.int .i64 n41) h43 λh46=>
aC (add (add (mk b5 0 none) 1) 1) (.int .i64 n42) h46 λh47=>
R20 h47) (λv44 h45=>Kp v44 h45) h24)
(bsel (n21==(4:Int))
(f_qcq p0 (some (mk b5 0 none)) (λh48=>
R20 h48) (λv49 h50=>Kp v49 h50) h24)
(bsel (n21==(5:Int))
(f_qcq p0 (some (mk b5 0 none)) (λh51=>
f_qcm p0 (18446744073709551615:Int) (λn54 h55=>
aC (add (mk b5 0 none) 8) (.int .u64 n54) h55 λh58=>
aI .i64 (add (mk b5 0 none) 7) h58 λn59=>
bsel (decide (n59<(8:Int)))
(aI .u64 (add (mk b5 0 none) 8) h58 λn60=>
aI .i64 (add (mk b5 0 none) 7) h58 λn61=>
bsel (decide ((wrap .i64 ((8:Int)*n61))<0)) False
(bsel ((Int.fdiv n60 (2 ^ (min (toNat (wrap .i64 ((8:Int)*n61))) 64))) != (0:Int))
(Kp (.iface 158 (.agg #[])) h58)
(R20 h58)))
(R20 h58)) (λv56 h57=>Kp v56 h57) h51) (λv52 h53=>Kp v52 h53) h24)
(bsel (n21==(6:Int))
(f_qcr p0 (λn62 n63 h64=>
f_qcn p0 (16:Int) (λn67 h68=>
aC (add (mk b5 0 none) 1) (.int .i64 n62) h68 λh71=>
aC (add (add (mk b5 0 none) 1) 1) (.int .i64 n63) h71 λh72=>
aC (add (mk b5 0 none) 9) (.int .i64 n67) h72 λh73=>
f_qcm p0 (1:Int) (λn74 h75=>
aC (add (mk b5 0 none) 3) (.bool (n74==(1:Int))) h75 λh78=>
R20 h78) (λv76 h77=>Kp v76 h77) h73) (λv69 h70=>Kp v69 h70) h64) (λv65 h66=>Kp v65 h66) h24)
(bsel (n21==(7:Int))
(f_qcn p0 (256:Int) (λn79 h80=>
f_qcr p0 (λn83 n84 h85=>
aC (add (mk b5 0 none) 9) (.int .i64 n79) h85 λh88=>
aC (add (mk b5 0 none) 1) (.int .i64 n83) h88 λh89=>
aC (add (add (mk b5 0 none) 1) 1) (.int .i64 n84) h89 λh90=>
R20 h90) (λv86 h87=>Kp v86 h87) h80) (λv81 h82=>Kp v81 h82) h24)
(∃ R91:Bool->AH->Prop,(∀ b92:Bool,∀ h93,R91 b92 h93->
bsel b92
(f_qcn p0 (256:Int) (λn94 h95=>
aC (add (mk b5 0 none) 9) (.int .i64 n94) h95 λh98=>
R20 h98) (λv96 h97=>Kp v96 h97) h93)
(bsel (n21==(10:Int))
(f_qcm p0 (140737488355327:Int) (λn99 h100=>
aC (add (mk b5 0 none) 6) (.int .u64 n99) h100 λh103=>
R20 h103) (λv101 h102=>Kp v101 h102) h93)
(bsel (n21==(12:Int))
(f_qcn p0 (1048577:Int) (λn104 h105=>
aC (add (mk b5 0 none) 9) (.int .i64 n104) h105 λh108=>
R20 h108) (λv106 h107=>Kp v106 h107) h93)
(bsel (n21==(15:Int))
(f_qcn p0 (8:Int) (λn109 h110=>
f_qcn p0 (4:Int) (λn113 h114=>
f_qcn p0 (4:Int) (λn117 h118=>
f_qcn p0 (4:Int) (λn121 h122=>
aC (add (mk b5 0 none) 9) (.int .i64 (wrap .i64 ((1:Int)+n109))) h122 λh125=>
aC (add (mk b5 0 none) 10) (.int .i64 n113) h125 λh126=>
aC (add (mk b5 0 none) 11) (.int .i64 n117) h126 λh127=>
aC (add (mk b5 0 none) 12) (.int .i64 n121) h127 λh128=>
R20 h128) (λv123 h124=>Kp v123 h124) h118) (λv119 h120=>Kp v119 h120) h114) (λv115 h116=>Kp v115 h116) h110) (λv111 h112=>Kp v111 h112) h93)
(bsel (n21==(16:Int))
(f_qcn p0 (4:Int) (λn129 h130=>
f_qcm p0 (18446744073709551615:Int) (λn133 h134=>
aC (add (mk b5 0 none) 9) (.int .i64 n129) h134 λh137=>
aC (add (mk b5 0 none) 8) (.int .u64 n133) h137 λh138=>
R20 h138) (λv135 h136=>Kp v135 h136) h130) (λv131 h132=>Kp v131 h132) h93)
(∃ R139:Bool->AH->Prop,(∀ b140:Bool,∀ h141,R139 b140 h141->
bsel b140
(R20 h141)
(Kp (.iface 158 (.agg #[])) h141))/\
(bsel (n21==(11:Int))
(R139 (n21==(11:Int)) h93)
(bsel (n21==(13:Int))
(R139 (n21==(13:Int)) h93)
(R139 (n21==(14:Int)) h93)))))))))/\
(bsel (n21==(8:Int))
(R91 (n21==(8:Int)) h24)
(R91 (n21==(9:Int)) h24)))))))))/\
(bsel (n21==(1:Int))
(R22 (n21==(1:Int)) h19)
(R22 (n21==(3:Int)) h19)))) (λv3 h4=>Kp v3 h4) h)
def qcs_A:qcs_T:=qcs_G qcn_A qco_A qcp_A qcq_A qcm_A qcr_A
def qcs_W (f:qcs_T):aW [.c .p] EnR:=λp0 K Kp=>f p0 (λr0 r1 r2 r3 r4 r5 r6 r7 r8 r9 r10 r11 r12=>K (.agg #[(.int .i64 r0),(.int .i64 r1),(.int .i64 r2),(.bool r3),(.bool r4),(.bool r5),(.int .u64 r6),(.int .i64 r7),(.int .u64 r8),(.int .i64 r9),(.int .i64 r10),(.int .i64 r11),(.int .i64 r12)])) Kp
abbrev qct_Tn:=Option Addr->Option Addr->AP->AP
def qct_nA (_p0:Option Addr) (_p1:Option Addr) (K:AP) (h:AH):Prop:=
(K h)
abbrev qct_Tp:=Option Addr->Option Addr->AP->AP
def qct_pA (p0:Option Addr) (p1:Option Addr) (K:AP) (h:AH):Prop:=
(aF p0 λa1=>
aC a1 (.int .i64 (0:Int)) h λh2=>
aC (add a1 1) (.int .i64 (0:Int)) h2 λh3=>
aC (add a1 2) (.int .i64 (0:Int)) h3 λh4=>
aC (add a1 3) (.bool false) h4 λh5=>
aC (add a1 4) (.bool false) h5 λh6=>
aC (add a1 5) (.bool false) h6 λh7=>
aC (add a1 6) (.int .u64 (0:Int)) h7 λh8=>
aC (add a1 7) (.int .i64 (0:Int)) h8 λh9=>
aC (add a1 8) (.int .u64 (0:Int)) h9 λh10=>
aC (add a1 9) (.int .i64 (0:Int)) h10 λh11=>
aC (add a1 10) (.int .i64 (0:Int)) h11 λh12=>
aC (add a1 11) (.int .i64 (0:Int)) h12 λh13=>
aC (add a1 12) (.int .i64 (0:Int)) h13 λh14=>
aF p1 λa15=>
aC a15 (.int .i64 (13:Int)) h14 λh16=>
K h16)
abbrev qct_Tv:=Option Addr->Option Addr->Value->AP->AP
def qct_vA (f_p:qct_Tp):qct_Tv:=λp0 p1 v K h=>dpS [.c .p,.c .p] 158 [] f_p [(.pointer p0),(.pointer p1)] v K h
abbrev qcu_T:=Int->Int->Int->Int->Int->Int->(Int->Int->Int->Bool->Bool->Bool->Int->Int->Int->Int->Int->Int->Int->Int->AH->Prop)->AP
def qcu_G (f_qcs:qcs_T) (f_qct_n:qct_Tn) (f_qct_v:qct_Tv) (p0:Int) (p1:Int) (p2:Int) (p3:Int) (p4:Int) (p5:Int) (Q:Int->Int->Int->Bool->Bool->Bool->Int->Int->Int->Int->Int->Int->Int->Int->AH->Prop) (h:AH):Prop:=
(aT h (.cells #[(.int .u64 p0),(.int .u64 p1),(.int .u64 p2),(.int .u64 p3),(.int .u64 p4),(.int .u64 p5)] 44) λb1 h2=>
aT h2 (.cells #[(.int .i64 (0:Int)),(.int .i64 (0:Int)),(.int .i64 (0:Int)),(.bool false),(.bool false),(.bool false),(.int .u64 (0:Int)),(.int .i64 (0:Int)),(.int .u64 (0:Int)),(.int .i64 (0:Int)),(.int .i64 (0:Int)),(.int .i64 (0:Int)),(.int .i64 (0:Int))] 96) λb3 h4=>
aT h4 (.cells #[(.int .i64 (0:Int))] 26) λb5 h6=>
aT h6 (.cells #[(.slice (some (mk b1 0 none)) 6 6)] 163) λb7 h8=>
f_qcs (some (mk b7 0 none)) (λn9 n10 n11 b12 b13 b14 n15 n16 n17 n18 n19 n20 n21 h22=>
aC (mk b3 0 none) (.int .i64 n9) h22 λh40=>
aC (add (mk b3 0 none) 1) (.int .i64 n10) h40 λh41=>
aC (add (mk b3 0 none) 2) (.int .i64 n11) h41 λh42=>
aC (add (mk b3 0 none) 3) (.bool b12) h42 λh43=>
aC (add (mk b3 0 none) 4) (.bool b13) h43 λh44=>
aC (add (mk b3 0 none) 5) (.bool b14) h44 λh45=>
aC (add (mk b3 0 none) 6) (.int .u64 n15) h45 λh46=>
aC (add (mk b3 0 none) 7) (.int .i64 n16) h46 λh47=>
aC (add (mk b3 0 none) 8) (.int .u64 n17) h47 λh48=>
aC (add (mk b3 0 none) 9) (.int .i64 n18) h48 λh49=>
aC (add (mk b3 0 none) 10) (.int .i64 n19) h49 λh50=>
aC (add (mk b3 0 none) 11) (.int .i64 n20) h50 λh51=>
aC (add (mk b3 0 none) 12) (.int .i64 n21) h51 λh52=>
aC (mk b5 0 none) (.int .i64 (0:Int)) h52 λh53=>
f_qct_n (some (mk b3 0 none)) (some (mk b5 0 none)) (λh54=>
aI .i64 (mk b3 0 none) h54 λn55=>
aI .i64 (add (mk b3 0 none) 1) h54 λn56=>
aI .i64 (add (mk b3 0 none) 2) h54 λn57=>
aB (add (mk b3 0 none) 3) h54 λb58=>
aB (add (mk b3 0 none) 4) h54 λb59=>
aB (add (mk b3 0 none) 5) h54 λb60=>
aI .u64 (add (mk b3 0 none) 6) h54 λn61=>
aI .i64 (add (mk b3 0 none) 7) h54 λn62=>
aI .u64 (add (mk b3 0 none) 8) h54 λn63=>
aI .i64 (add (mk b3 0 none) 9) h54 λn64=>
aI .i64 (add (mk b3 0 none) 10) h54 λn65=>
aI .i64 (add (mk b3 0 none) 11) h54 λn66=>
aI .i64 (add (mk b3 0 none) 12) h54 λn67=>
aI .i64 (mk b5 0 none) h54 λn68=>
Q n55 n56 n57 b58 b59 b60 n61 n62 n63 n64 n65 n66 n67 n68 h54) h53) (λv23 h24=>f_qct_v (some (mk b3 0 none)) (some (mk b5 0 none)) v23 (λh25=>
aI .i64 (mk b3 0 none) h25 λn26=>
aI .i64 (add (mk b3 0 none) 1) h25 λn27=>
aI .i64 (add (mk b3 0 none) 2) h25 λn28=>
aB (add (mk b3 0 none) 3) h25 λb29=>
aB (add (mk b3 0 none) 4) h25 λb30=>
aB (add (mk b3 0 none) 5) h25 λb31=>
aI .u64 (add (mk b3 0 none) 6) h25 λn32=>
aI .i64 (add (mk b3 0 none) 7) h25 λn33=>
aI .u64 (add (mk b3 0 none) 8) h25 λn34=>
aI .i64 (add (mk b3 0 none) 9) h25 λn35=>
aI .i64 (add (mk b3 0 none) 10) h25 λn36=>
aI .i64 (add (mk b3 0 none) 11) h25 λn37=>
aI .i64 (add (mk b3 0 none) 12) h25 λn38=>
aI .i64 (mk b5 0 none) h25 λn39=>
Q n26 n27 n28 b29 b30 b31 n32 n33 n34 n35 n36 n37 n38 n39 h25) h24) h8)
def qcu_A:qcu_T:=qcu_G qcs_A qct_nA (qct_vA qct_pA)
def qcu_W (f:qcu_T):aW [.agg [(.i .u64),(.i .u64),(.i .u64),(.i .u64),(.i .u64),(.i .u64)]] EnR:=λp0 p1 p2 p3 p4 p5 K _Kp=>f p0 p1 p2 p3 p4 p5 (λr0 r1 r2 r3 r4 r5 r6 r7 r8 r9 r10 r11 r12 r13=>K (.tuple #[(.agg #[(.int .i64 r0),(.int .i64 r1),(.int .i64 r2),(.bool r3),(.bool r4),(.bool r5),(.int .u64 r6),(.int .i64 r7),(.int .u64 r8),(.int .i64 r9),(.int .i64 r10),(.int .i64 r11),(.int .i64 r12)]),(.int .i64 r13)]))
abbrev qcv_T:=Int->Int->Int->(AH->Prop)->(Value->AP)->AP
def qcv_A (p0:Int) (p1:Int) (p2:Int) (Q:AH->Prop) (Kp:Value->AP) (h:AH):Prop:=
(bsel (p0 != (0:Int))
(Kp (.iface 226 (.agg #[(.int .u64 p1),(.int .i64 p2),(.int .i64 p0)])) h)
(Q h))
def qcv_W (f:qcv_T):aW [.c (.i .i64),.agg [(.i .u64),(.i .i64)]] EnR:=λp0 p1 p2 K Kp=>f p0 p1 p2 (K (.tuple #[])) Kp
abbrev qcw_T:=Option Addr->Int->Int->(Int->AH->Prop)->AP
def qcw_A (p0:Option Addr) (p1:Int) (p2:Int) (Q:Int->AH->Prop) (h:AH):Prop:=
(bsel (decide (p1<(0:Int)))
(Q (1:Int) h)
(bsel (decide (p1>=(8:Int)))
(Q (1:Int) h)
(bsel (decide (p2<(0:Int)))
(Q (1:Int) h)
(bsel (decide (p2>=(2:Int)))
(Q (1:Int) h)
(aF p0 λa1=>
bF p1 8
(bF p2 2
(aC (add (add a1 (toNat p1*18)) (toNat p2*9)) (.bool false) h λh2=>
aC (add (add (add a1 (toNat p1*18)) (toNat p2*9)) 1) (.int .i64 (0:Int)) h2 λh3=>
aC (add (add (add a1 (toNat p1*18)) (toNat p2*9)) 2) (.int .i64 (0:Int)) h3 λh4=>
aC (add (add (add a1 (toNat p1*18)) (toNat p2*9)) 3) (.int .i64 (0:Int)) h4 λh5=>
aC (add (add (add a1 (toNat p1*18)) (toNat p2*9)) 4) (.bool false) h5 λh6=>
aC (add (add (add a1 (toNat p1*18)) (toNat p2*9)) 5) (.bool false) h6 λh7=>
aC (add (add (add a1 (toNat p1*18)) (toNat p2*9)) 6) (.bool false) h7 λh8=>
aC (add (add (add a1 (toNat p1*18)) (toNat p2*9)) 7) (.bool false) h8 λh9=>
aC (add (add (add a1 (toNat p1*18)) (toNat p2*9)) 8) (.bool false) h9 λh10=>
Q (0:Int) h10)))))))
def qcw_W (f:qcw_T):aW [.c .p,.c (.i .i64),.c (.i .i64)] EnR:=λp0 p1 p2 K _Kp=>f p0 p1 p2 (λr0=>K (.int .i64 r0))
abbrev qcx_T:=Option Addr->(Int->AH->Prop)->AP
def qcx_G (f_qcw:qcw_T) (p0:Option Addr) (Q:Int->AH->Prop) (h:AH):Prop:=
(∃ R1:Int->AH->Prop,(∀ x16:Int,∀ h17,R1 x16 h17->
∃ R18:AH->Prop,(∀ h25,R18 h25->
Q (wrap .i64 ((Int.tmod (Int.tmod (wrap .i64 ((Int.tmod x16 (51:Int))+(51:Int))) (51:Int)) (3:Int))-(1:Int))) h25)/\
(bsel (decide ((wrap .i64 ((wrap .i64 (Int.tdiv (Int.tmod (wrap .i64 ((Int.tmod x16 (51:Int))+(51:Int))) (51:Int)) (3:Int)))-(1:Int)))>=(0:Int)))
(aF p0 λa19=>
aP a19 h17 λpt20=>
aF pt20 λa21=>
aP (add a21 3) h17 λpt22=>
f_qcw pt22 (Int.tmod (wrap .i64 ((wrap .i64 (Int.tdiv (Int.tmod (wrap .i64 ((Int.tmod x16 (51:Int))+(51:Int))) (51:Int)) (3:Int)))-(1:Int))) (8:Int)) (wrap .i64 (Int.tdiv (wrap .i64 ((wrap .i64 (Int.tdiv (Int.tmod (wrap .i64 ((Int.tmod x16 (51:Int))+(51:Int))) (51:Int)) (3:Int)))-(1:Int))) (8:Int))) (λ_ h24=>
R18 h24) h17)
(R18 h17)))/\
(aF p0 λa2=>
aI .i64 (add a2 2) h λn3=>
aF p0 λa4=>
aS (add a4 1) h λs5=>
bsel (decide (n3<(Int.ofNat s5.len)))
(aF p0 λa6=>
aS (add a6 1) h λs7=>
aF p0 λa8=>
aI .i64 (add a8 2) h λn9=>
aF s7.a λa10=>
bF n9 s7.len
(aI .i64 (add a10 (toNat n9*1)) h λn11=>
aF p0 λa12=>
aI .i64 (add a12 2) h λn13=>
aF p0 λa14=>
aC (add a14 2) (.int .i64 (wrap .i64 (n13+(1:Int)))) h λh15=>
R1 n11 h15))
(R1 (0:Int) h)))
def qcx_A:qcx_T:=qcx_G qcw_A
def qcx_W (f:qcx_T):aW [.c .p] EnR:=λp0 K _Kp=>f p0 (λr0=>K (.int .i64 r0))
abbrev qcy_T:=Option Addr->Int->(Int->Bool->AH->Prop)->AP
def qcy_A (p0:Option Addr) (p1:Int) (Q:Int->Bool->AH->Prop) (h:AH):Prop:=
(aF p0 λa1=>
aM (add a1 6) h λmp2=>
qP h mp2 .i64 p1 λo3=>
∃ pt4:Option Addr,((o3.getD (.pointer none)):Value)=(.pointer pt4)/\
(bsel (!pt4.isNone)
(aF pt4 λa5=>
aI .i64 (add a5 1) h λn6=>
Q n6 true h)
(Q (0:Int) false h)))
def qcy_W (f:qcy_T):aW [.c .p,.c (.i .i64)] EnR:=λp0 p1 K _Kp=>f p0 p1 (λr0 r1=>K (.tuple #[(.int .i64 r0),(.bool r1)]))
abbrev qcz_T:=Option Addr->Int->(Int->Bool->AH->Prop)->AP
def qcz_G (f_qan:qan_T) (p0:Option Addr) (p1:Int) (Q:Int->Bool->AH->Prop) (h:AH):Prop:=
(aF p0 λa1=>
aM (add a1 4) h λmp2=>
qP h mp2 .i64 p1 λo3=>
∃ n4:Int,((o3.getD (.int .i64 (0:Int))):Value)=(.int .i64 n4)/\
(bsel o3.isSome
(Q n4 false h)
(aF p0 λa5=>
aI .i64 (add a5 1) h λn6=>
aF p0 λa7=>
aI .i64 a7 h λn8=>
∃ R9:AH->Prop,(∀ h15,R9 h15->
aF p0 λa16=>
aI .i64 (add a16 1) h15 λn17=>
aF p0 λa18=>
aI .i64 (add a18 1) h15 λn19=>
aF p0 λa20=>
aC (add a20 1) (.int .i64 (wrap .i64 (n19+(1:Int)))) h15 λh21=>
aF p0 λa22=>
aF p0 λa23=>
aM (add a22 4) h21 λmp24=>
aM (add a23 3) h21 λmp25=>
aCz h21 mp24 .i64 p1 (.int .i64 (0:Int)) λv26 n27 h28=>
∃ n29:Int,(v26:Value)=(.int .i64 n29)/\
(aCZ h28 mp24 n27 (.int .i64 n17) λh30=>
aCz h30 mp25 .i64 n17 (.int .i64 (0:Int)) λv31 n32 h33=>
∃ n34:Int,(v31:Value)=(.int .i64 n34)/\
(aCZ h33 mp25 n32 (.int .i64 p1) λh35=>
Q n17 (decide (n6 > n8)) h35)))/\
(bsel (decide (n6 > n8))
(f_qan p0 (λh10=>
aF p0 λa11=>
aI .i64 (add a11 2) h10 λn12=>
aF p0 λa13=>
aC (add a13 2) (.int .i64 (wrap .i64 (n12+(1:Int)))) h10 λh14=>
R9 h14) h)
(R9 h)))))
def qcz_A:qcz_T:=qcz_G qan_A
def qcz_W (f:qcz_T):aW [.c .p,.c (.i .i64)] EnR:=λp0 p1 K _Kp=>f p0 p1 (λr0 r1=>K (.tuple #[(.int .i64 r0),(.bool r1)]))
abbrev qda_T:=Bool->Int->Int->Int->Bool->Bool->Bool->Bool->Bool->Option Addr->(Bool->AH->Prop)->AP
def qda_A (_p0:Bool) (_p1:Int) (_p2:Int) (_p3:Int) (_p4:Bool) (_p5:Bool) (_p6:Bool) (p7:Bool) (_p8:Bool) (p9:Option Addr) (Q:Bool->AH->Prop) (h:AH):Prop:=
(aF p9 λa1=>
aB a1 h λb2=>
bsel (!b2)
(Q true h)
(Q (!p7) h))
def qda_W (f:qda_T):aW [.agg [.b,(.i .i64),(.i .i64),(.i .i64),.b,.b,.b,.b,.b],.c .p] EnR:=λp0 p1 p2 p3 p4 p5 p6 p7 p8 p9 K _Kp=>f p0 p1 p2 p3 p4 p5 p6 p7 p8 p9 (λr0=>K (.bool r0))
abbrev qdb_T:=Option Addr->Option Addr->(AH->Prop)->AP
def qdb_G (f_qda:qda_T) (p0:Option Addr) (p1:Option Addr) (Q:AH->Prop) (h:AH):Prop:=
(∃ I1:Int->Nat->AH->Prop,(∃ m2,I1 (0:Int) m2 h)/\∀ x5:Int,∀ m2 h4,I1 x5 m2 h4->
bsel (decide (x5<(8:Int)))
(∃ I6:Int->Nat->AH->Prop,(∃ m7,I6 (0:Int) m7 h4)/\∀ x10:Int,∀ m7 h9,I6 x10 m7 h9->
bsel (decide (x10<(2:Int)))
(∃ R11:AH->Prop,(∀ h34,R11 h34->
∃ m8,m8<m7/\I6 (wrap .i64 (x10+(1:Int))) m8 h34)/\
(aF p0 λa12=>
bF x5 8
(bF x10 2
(aB (add (add a12 (toNat x5*18)) (toNat x10*9)) h9 λb13=>
aI .i64 (add (add (add a12 (toNat x5*18)) (toNat x10*9)) 1) h9 λn14=>
aI .i64 (add (add (add a12 (toNat x5*18)) (toNat x10*9)) 2) h9 λn15=>
aI .i64 (add (add (add a12 (toNat x5*18)) (toNat x10*9)) 3) h9 λn16=>
aB (add (add (add a12 (toNat x5*18)) (toNat x10*9)) 4) h9 λb17=>
aB (add (add (add a12 (toNat x5*18)) (toNat x10*9)) 5) h9 λb18=>
aB (add (add (add a12 (toNat x5*18)) (toNat x10*9)) 6) h9 λb19=>
aB (add (add (add a12 (toNat x5*18)) (toNat x10*9)) 7) h9 λb20=>
aB (add (add (add a12 (toNat x5*18)) (toNat x10*9)) 8) h9 λb21=>
f_qda b13 n14 n15 n16 b17 b18 b19 b20 b21 p1 (λb22 h23=>
bsel b22
(aF p0 λa24=>
bF x5 8
(bF x10 2
(aC (add (add a24 (toNat x5*18)) (toNat x10*9)) (.bool false) h23 λh25=>
aC (add (add (add a24 (toNat x5*18)) (toNat x10*9)) 1) (.int .i64 (0:Int)) h25 λh26=>
aC (add (add (add a24 (toNat x5*18)) (toNat x10*9)) 2) (.int .i64 (0:Int)) h26 λh27=>
aC (add (add (add a24 (toNat x5*18)) (toNat x10*9)) 3) (.int .i64 (0:Int)) h27 λh28=>
aC (add (add (add a24 (toNat x5*18)) (toNat x10*9)) 4) (.bool false) h28 λh29=>
aC (add (add (add a24 (toNat x5*18)) (toNat x10*9)) 5) (.bool false) h29 λh30=>
aC (add (add (add a24 (toNat x5*18)) (toNat x10*9)) 6) (.bool false) h30 λh31=>
aC (add (add (add a24 (toNat x5*18)) (toNat x10*9)) 7) (.bool false) h31 λh32=>
aC (add (add (add a24 (toNat x5*18)) (toNat x10*9)) 8) (.bool false) h32 λh33=>
R11 h33)))
(R11 h23)) h9))))
(∃ m3,m3<m2/\I1 (wrap .i64 (x5+(1:Int))) m3 h9))
(Q h4))
def qdb_A:qdb_T:=qdb_G qda_A
def qdb_W (f:qdb_T):aW [.c .p,.fn 225 [] [.p]] EnR:=λp0 p1 K _Kp=>f p0 p1 (K (.tuple #[]))
abbrev qdc_T:=Option Addr->Bool->(AH->Prop)->AP
def qdc_G (f_qdb:qdb_T) (p0:Option Addr) (p1:Bool) (Q:AH->Prop) (h:AH):Prop:=
(aT h (.cells #[(.bool p1)] 4) λb1 h2=>
f_qdb p0 (some (mk b1 0 none)) (λh3=>
Q h3) h2)
def qdc_A:qdc_T:=qdc_G qdb_A
def qdc_W (f:qdc_T):aW [.c .p,.c .b] EnR:=λp0 p1 K _Kp=>f p0 p1 (K (.tuple #[]))
abbrev qdd_T:=Option Addr->Int->(Int->AH->Prop)->AP
def qdd_G (f_qcz:qcz_T) (f_qdc:qdc_T) (p0:Option Addr) (p1:Int) (Q:Int->AH->Prop) (h:AH):Prop:=
(aF p0 λa1=>
aP (add a1 4) h λpt2=>
f_qcz pt2 p1 (λn3 b4 h5=>
∃ R6:AH->Prop,(∀ h10,R6 h10->
Q n3 h10)/\
(bsel b4
(aF p0 λa7=>
aP (add a7 3) h5 λpt8=>
f_qdc pt8 true (λh9=>
R6 h9) h5)
(R6 h5))) h)
def qdd_A:qdd_T:=qdd_G qcz_A qdc_A
def qdd_W (f:qdd_T):aW [.c .p,.c (.i .i64)] EnR:=λp0 p1 K _Kp=>f p0 p1 (λr0=>K (.int .i64 r0))
abbrev qde_T:=Int->(Int->AH->Prop)->AP
def qde_A (p0:Int) (Q:Int->AH->Prop) (h:AH):Prop:=
(Q (bits .and .i64 p0 (7:Int)) h)
def qde_W (f:qde_T):aW [.c (.i .i64)] EnR:=λp0 K _Kp=>f p0 (λr0=>K (.int .i64 r0))
abbrev qdf_T:=Bool->Int->Int->Int->Bool->Bool->Bool->Bool->Bool->Int->Int->(Bool->AH->Prop)->AP
def qdf_A (p0:Bool) (p1:Int) (p2:Int) (_p3:Int) (_p4:Bool) (_p5:Bool) (_p6:Bool) (p7:Bool) (_p8:Bool) (p9:Int) (p10:Int) (Q:Bool->AH->Prop) (h:AH):Prop:=
(bsel p0
(bsel (p2==p10)
(bsel (p1==p9)
(Q true h)
(Q p7 h))
(Q false h))
(Q false h))
def qdf_W (f:qdf_T):aW [.agg [.b,(.i .i64),(.i .i64),(.i .i64),.b,.b,.b,.b,.b],.c (.i .i64),.c (.i .i64)] EnR:=λp0 p1 p2 p3 p4 p5 p6 p7 p8 p9 p10 K _Kp=>f p0 p1 p2 p3 p4 p5 p6 p7 p8 p9 p10 (λr0=>K (.bool r0))
abbrev qdg_T:=Bool->Int->Int->Int->Bool->Bool->Bool->Bool->Bool->Option Addr->Option Addr->(Bool->AH->Prop)->AP
def qdg_G (f_qdf:qdf_T) (p0:Bool) (p1:Int) (p2:Int) (p3:Int) (p4:Bool) (p5:Bool) (p6:Bool) (p7:Bool) (p8:Bool) (p9:Option Addr) (p10:Option Addr) (Q:Bool->AH->Prop) (h:AH):Prop:=
(aF p9 λa1=>
aI .i64 a1 h λn2=>
aF p10 λa3=>
aI .i64 a3 h λn4=>
f_qdf p0 p1 p2 p3 p4 p5 p6 p7 p8 n2 n4 (λb5 h6=>
Q b5 h6) h)
def qdg_A:qdg_T:=qdg_G qdf_A
def qdg_W (f:qdg_T):aW [.agg [.b,(.i .i64),(.i .i64),(.i .i64),.b,.b,.b,.b,.b],.c .p,.c .p] EnR:=λp0 p1 p2 p3 p4 p5 p6 p7 p8 p9 p10 K _Kp=>f p0 p1 p2 p3 p4 p5 p6 p7 p8 p9 p10 (λr0=>K (.bool r0))
abbrev qdh_T:=Sl->Option Addr->Option Addr->(Int->AH->Prop)->AP
def qdh_G (f_qdg:qdg_T) (p0:Sl) (p1:Option Addr) (p2:Option Addr) (Q:Int->AH->Prop) (h:AH):Prop:=
(∃ I1:Int->Nat->AH->Prop,(∃ m2,I1 (0:Int) m2 h)/\∀ x5:Int,∀ m2 h4,I1 x5 m2 h4->
bsel (decide (x5<(Int.ofNat p0.len)))
(aF p0.a λa6=>
bF x5 p0.len
(aB (add a6 (toNat x5*9)) h4 λb7=>
aI .i64 (add (add a6 (toNat x5*9)) 1) h4 λn8=>
aI .i64 (add (add a6 (toNat x5*9)) 2) h4 λn9=>
aI .i64 (add (add a6 (toNat x5*9)) 3) h4 λn10=>
aB (add (add a6 (toNat x5*9)) 4) h4 λb11=>
aB (add (add a6 (toNat x5*9)) 5) h4 λb12=>
aB (add (add a6 (toNat x5*9)) 6) h4 λb13=>
aB (add (add a6 (toNat x5*9)) 7) h4 λb14=>
aB (add (add a6 (toNat x5*9)) 8) h4 λb15=>
f_qdg b7 n8 n9 n10 b11 b12 b13 b14 b15 p1 p2 (λb16 h17=>
bsel b16
(Q x5 h17)
(∃ m3,m3<m2/\I1 (wrap .i64 (x5+(1:Int))) m3 h17)) h4))
(Q (-1:Int) h4))
def qdh_A:qdh_T:=qdh_G qdg_A
def qdh_W (f:qdh_T):aW [.c .s,.fn 193 [] [.p,.p]] EnR:=λp0 p1 p2 K _Kp=>f p0 p1 p2 (λr0=>K (.int .i64 r0))
abbrev qdi_T:=Option Addr->Int->Int->(Bool->Int->Int->Int->Bool->Bool->Bool->Bool->Bool->Bool->AH->Prop)->AP
def qdi_G (f_qde:qde_T) (f_qdh:qdh_T) (p0:Option Addr) (p1:Int) (p2:Int) (Q:Bool->Int->Int->Int->Bool->Bool->Bool->Bool->Bool->Bool->AH->Prop) (h:AH):Prop:=
(aT h (.cells #[(.int .i64 p1)] 3) λb1 h2=>
aT h2 (.cells #[(.int .i64 p2)] 3) λb3 h4=>
aF p0 λa5=>
aI .i64 (mk b3 0 none) h4 λn6=>
f_qde n6 (λn7 h8=>
bF n7 8
(f_qdh (Sl.mk (some (add a5 (toNat n7*18))) 2 2) (some (mk b1 0 none)) (some (mk b3 0 none)) (λn9 h10=>
bsel (decide (n9>=(0:Int)))
(bF n9 2
(aB (add (add a5 (toNat n7*18)) (toNat n9*9)) h10 λb11=>
aI .i64 (add (add (add a5 (toNat n7*18)) (toNat n9*9)) 1) h10 λn12=>
aI .i64 (add (add (add a5 (toNat n7*18)) (toNat n9*9)) 2) h10 λn13=>
aI .i64 (add (add (add a5 (toNat n7*18)) (toNat n9*9)) 3) h10 λn14=>
aB (add (add (add a5 (toNat n7*18)) (toNat n9*9)) 4) h10 λb15=>
aB (add (add (add a5 (toNat n7*18)) (toNat n9*9)) 5) h10 λb16=>
aB (add (add (add a5 (toNat n7*18)) (toNat n9*9)) 6) h10 λb17=>
aB (add (add (add a5 (toNat n7*18)) (toNat n9*9)) 7) h10 λb18=>
aB (add (add (add a5 (toNat n7*18)) (toNat n9*9)) 8) h10 λb19=>
Q b11 n12 n13 n14 b15 b16 b17 b18 b19 true h10))
(Q (false:Bool) (0:Int) (0:Int) (0:Int) (false:Bool) (false:Bool) (false:Bool) (false:Bool) (false:Bool) false h10)) h8)) h4)
def qdi_A:qdi_T:=qdi_G qde_A qdh_A
def qdi_W (f:qdi_T):aW [.c .p,.c (.i .i64),.c (.i .i64)] EnR:=λp0 p1 p2 K _Kp=>f p0 p1 p2 (λr0 r1 r2 r3 r4 r5 r6 r7 r8 r9=>K (.tuple #[(.agg #[(.bool r0),(.int .i64 r1),(.int .i64 r2),(.int .i64 r3),(.bool r4),(.bool r5),(.bool r6),(.bool r7),(.bool r8)]),(.bool r9)]))
abbrev qdj_T:=Bool->Bool->Bool->Bool->Bool->Bool->(Bool->AH->Prop)->AP
def qdj_A (p0:Bool) (p1:Bool) (p2:Bool) (p3:Bool) (p4:Bool) (p5:Bool) (Q:Bool->AH->Prop) (h:AH):Prop:=
(bsel p3
(bsel (!p0)
(Q false h)
(bsel p4
(bsel (!p1)
(Q false h)
(bsel p5
(Q (!(!p2)) h)
(Q true h)))
(bsel p5
(Q (!(!p2)) h)
(Q true h))))
(bsel p4
(bsel (!p1)
(Q false h)
(bsel p5
(Q (!(!p2)) h)
(Q true h)))
(bsel p5
(Q (!(!p2)) h)
(Q true h))))
def qdj_W (f:qdj_T):aW [.agg [.b,.b,.b],.agg [.b,.b,.b]] EnR:=λp0 p1 p2 p3 p4 p5 K _Kp=>f p0 p1 p2 p3 p4 p5 (λr0=>K (.bool r0))
abbrev qdk_T:=Sl->Int->(Int->Int->Bool->Bool->Bool->Int->Bool->AH->Prop)->AP
def qdk_A (p0:Sl) (p1:Int) (Q:Int->Int->Bool->Bool->Bool->Int->Bool->AH->Prop) (h:AH):Prop:=
(∃ I1:Int->Int->Int->Bool->Bool->Bool->Int->Nat->AH->Prop,(∃ m2,I1 (0:Int) (0:Int) (0:Int) false false false (0:Int) m2 h)/\∀ x5:Int,∀ c6:Int,∀ c7:Int,∀ c8:Bool,∀ c9:Bool,∀ c10:Bool,∀ c11:Int,∀ m2 h4,I1 x5 c6 c7 c8 c9 c10 c11 m2 h4->
bsel (decide (x5<(Int.ofNat p0.len)))
(aF p0.a λa12=>
bF x5 p0.len
(aI .i64 (add a12 (toNat x5*6)) h4 λn13=>
aI .i64 (add (add a12 (toNat x5*6)) 1) h4 λn14=>
aB (add (add a12 (toNat x5*6)) 2) h4 λb15=>
aB (add (add a12 (toNat x5*6)) 3) h4 λb16=>
aB (add (add a12 (toNat x5*6)) 4) h4 λb17=>
aI .i64 (add (add a12 (toNat x5*6)) 5) h4 λn18=>
bsel (decide (n13<=p1))
(bsel (decide (p1<n14))
(Q n13 n14 b15 b16 b17 n18 true h4)
(∃ m3,m3<m2/\I1 (wrap .i64 (x5+(1:Int))) c6 c7 c8 c9 c10 c11 m3 h4))
(∃ m3,m3<m2/\I1 (wrap .i64 (x5+(1:Int))) c6 c7 c8 c9 c10 c11 m3 h4)))
(Q (0:Int) (0:Int) (false:Bool) (false:Bool) (false:Bool) (0:Int) false h4))
def qdk_W (f:qdk_T):aW [.c .s,.c (.i .i64)] EnR:=λp0 p1 K _Kp=>f p0 p1 (λr0 r1 r2 r3 r4 r5 r6=>K (.tuple #[(.agg #[(.int .i64 r0),(.int .i64 r1),(.bool r2),(.bool r3),(.bool r4),(.int .i64 r5)]),(.bool r6)]))
abbrev qdl_T:=Int->(Int->Int->Int->Int->Int->AH->Prop)->AP
def qdl_A (p0:Int) (Q:Int->Int->Int->Int->Int->AH->Prop) (h:AH):Prop:=
(aT h (.cells #[(.int .i64 (0:Int)),(.int .i64 (0:Int)),(.int .i64 (0:Int)),(.int .i64 (0:Int))] 195) λb1 h2=>
∃ I3:Int->Nat->AH->Prop,(∃ m4,I3 (0:Int) m4 h2)/\∀ x7:Int,∀ m4 h6,I3 x7 m4 h6->
bsel (decide (x7<(4:Int)))
(bsel (decide ((wrap .i64 ((39:Int)-(wrap .i64 ((9:Int)*x7))))<0)) False
(bF x7 4
(aC (add (mk b1 0 none) (toNat x7*1)) (.int .i64 (wrap .i64 (bits .and .u64 (Int.fdiv p0 (2 ^ (min (toNat (wrap .i64 ((39:Int)-(wrap .i64 ((9:Int)*x7))))) 64))) (511:Int)))) h6 λh8=>
∃ m5,m5<m4/\I3 (wrap .i64 (x7+(1:Int))) m5 h8)))
(aI .i64 (mk b1 0 none) h6 λn9=>
aI .i64 (add (mk b1 0 none) 1) h6 λn10=>
aI .i64 (add (mk b1 0 none) 2) h6 λn11=>
aI .i64 (add (mk b1 0 none) 3) h6 λn12=>
Q n9 n10 n11 n12 (wrap .i64 (bits .and .u64 p0 (4095:Int))) h6))
def qdl_W (f:qdl_T):aW [.c (.i .u64)] EnR:=λp0 K _Kp=>f p0 (λr0 r1 r2 r3 r4=>K (.tuple #[(.agg #[(.int .i64 r0),(.int .i64 r1),(.int .i64 r2),(.int .i64 r3)]),(.int .i64 r4)]))
abbrev qdm_T:=Int->(Int->Int->Int->Int->AH->Prop)->AP
def qdm_G (f_qdl:qdl_T) (p0:Int) (Q:Int->Int->Int->Int->AH->Prop) (h:AH):Prop:=
(f_qdl (wrap .u64 ((wrap .u64 p0)*(4096:Int))) (λn1 n2 n3 n4 _ h6=>
Q n1 n2 n3 n4 h6) h)
def qdm_A:qdm_T:=qdm_G qdl_A
def qdm_W (f:qdm_T):aW [.c (.i .i64)] EnR:=λp0 K _Kp=>f p0 (λr0 r1 r2 r3=>K (.agg #[(.int .i64 r0),(.int .i64 r1),(.int .i64 r2),(.int .i64 r3)]))
abbrev qdn_T:=Option Addr->Int->Int->(Int->Int->AH->Prop)->AP
def qdn_G (f_qbn:qbn_T) (p0:Option Addr) (p1:Int) (p2:Int) (Q:Int->Int->AH->Prop) (h:AH):Prop:=
(f_qbn p0 p1 p2 (λn1 h2=>
bsel (n1 != (0:Int))
(Q (0:Int) n1 h2)
(∃ I3:Int->Int->Nat->AH->Prop,(∃ m4,I3 (0:Int) (wrap .i64 (p2-(1:Int))) m4 h2)/\∀ x7:Int,∀ x8:Int,∀ m4 h6,I3 x7 x8 m4 h6->
bsel (decide (x8>=(0:Int)))
(∃ R9:Int->AH->Prop,(∀ x16:Int,∀ h17,R9 x16 h17->
∃ m5,m5<m4/\I3 x16 (wrap .i64 (x8-(1:Int))) m5 h17)/\
(aF p0 λa10=>
aM (add a10 2) h6 λmp11=>
qP h6 mp11 .i64 (wrap .i64 (wrap .u64 (Int.tdiv (wrap .u64 (p1+(wrap .u64 x8))) (4096:Int)))) λo12=>
∃ pt13:Option Addr,((o12.getD (.pointer none)):Value)=(.pointer pt13)/\
(bsel (!pt13.isNone)
(aF pt13 λa14=>
bF (Int.tmod (wrap .u64 (p1+(wrap .u64 x8))) (4096:Int)) 4096
(aI .u8 (add a14 (toNat (Int.tmod (wrap .u64 (p1+(wrap .u64 x8))) (4096:Int))*1)) h6 λn15=>
R9 (bits .or .u64 (wrap .u64 (x7*2 ^ (8:Nat))) (wrap .u64 n15)) h6))
(R9 (wrap .u64 (x7*2 ^ (8:Nat))) h6))))
(Q x7 (0:Int) h6))) h)
def qdn_A:qdn_T:=qdn_G qbn_A
def qdn_W (f:qdn_T):aW [.c .p,.c (.i .u64),.c (.i .i64)] EnR:=λp0 p1 p2 K _Kp=>f p0 p1 p2 (λr0 r1=>K (.tuple #[(.int .u64 r0),(.int .i64 r1)]))
abbrev qdo_T:=Int->(Bool->Bool->Bool->Bool->Bool->Bool->Bool->Bool->Int->AH->Prop)->AP
def qdo_G (f_qbj:qbj_T) (f_qbk:qbk_T) (p0:Int) (Q:Bool->Bool->Bool->Bool->Bool->Bool->Bool->Bool->Int->AH->Prop) (h:AH):Prop:=
(aT h (.cells #[(.bool false),(.bool false),(.bool false),(.bool false),(.bool false),(.bool false),(.bool false),(.bool false),(.int .i64 (0:Int))] 193) λb1 h2=>
aC (mk b1 0 none) (.bool false) h2 λh3=>
aC (add (mk b1 0 none) 1) (.bool false) h3 λh4=>
aC (add (mk b1 0 none) 2) (.bool false) h4 λh5=>
aC (add (mk b1 0 none) 3) (.bool false) h5 λh6=>
aC (add (mk b1 0 none) 4) (.bool false) h6 λh7=>
aC (add (mk b1 0 none) 5) (.bool false) h7 λh8=>
aC (add (mk b1 0 none) 6) (.bool false) h8 λh9=>
aC (add (mk b1 0 none) 7) (.bool false) h9 λh10=>
aC (add (mk b1 0 none) 8) (.int .i64 (wrap .i64 (bits .and .u64 (Int.fdiv p0 (2 ^ (12:Nat))) (1048575:Int)))) h10 λh11=>
f_qbj (some (mk b1 0 none)) (λpt12 pt13 pt14 pt15 pt16 pt17 pt18 pt19 h20=>
∃ I21:Int->Nat->AH->Prop,(∃ m22,I21 (0:Int) m22 h20)/\∀ x25:Int,∀ m22 h24,I21 x25 m22 h24->
bsel (decide (x25<(8:Int)))
(bF x25 8
(geP [(.pointer pt12),(.pointer pt13),(.pointer pt14),(.pointer pt15),(.pointer pt16),(.pointer pt17),(.pointer pt18),(.pointer pt19)] (toNat x25) λn26=>
f_qbk (λn27 n28 n29 n30 n31 n32 n33 n34 h35=>
bF x25 8
(geI .i64 [(.int .i64 n27),(.int .i64 n28),(.int .i64 n29),(.int .i64 n30),(.int .i64 n31),(.int .i64 n32),(.int .i64 n33),(.int .i64 n34)] (toNat x25) λn36=>
bsel (decide (n36<0)) False
(aF n26 λa37=>
aC a37 (.bool ((bits .and .u64 (Int.fdiv p0 (2 ^ (min (toNat n36) 64))) (1:Int))==(1:Int))) h35 λh38=>
∃ m23,m23<m22/\I21 (wrap .i64 (x25+(1:Int))) m23 h38))) h24))
(aB (mk b1 0 none) h24 λb39=>
aB (add (mk b1 0 none) 1) h24 λb40=>
aB (add (mk b1 0 none) 2) h24 λb41=>
aB (add (mk b1 0 none) 3) h24 λb42=>
aB (add (mk b1 0 none) 4) h24 λb43=>
aB (add (mk b1 0 none) 5) h24 λb44=>
aB (add (mk b1 0 none) 6) h24 λb45=>
aB (add (mk b1 0 none) 7) h24 λb46=>
aI .i64 (add (mk b1 0 none) 8) h24 λn47=>
Q b39 b40 b41 b42 b43 b44 b45 b46 n47 h24)) h11)
def qdo_A:qdo_T:=qdo_G qbj_A qbk_A
def qdo_W (f:qdo_T):aW [.c (.i .u64)] EnR:=λp0 K _Kp=>f p0 (λr0 r1 r2 r3 r4 r5 r6 r7 r8=>K (.agg #[(.bool r0),(.bool r1),(.bool r2),(.bool r3),(.bool r4),(.bool r5),(.bool r6),(.bool r7),(.int .i64 r8)]))
abbrev qdp_T:=Option Addr->Option Addr->Option Addr->Int->Int->Int->(Bool->Bool->Bool->Bool->Bool->Bool->Bool->Bool->Int->AH->Prop)->AP
def qdp_G (f_qbm:qbm_T) (f_qdn:qdn_T) (f_qdo:qdo_T) (p0:Option Addr) (_p1:Option Addr) (_p2:Option Addr) (_p3:Int) (p4:Int) (p5:Int) (Q:Bool->Bool->Bool->Bool->Bool->Bool->Bool->Bool->Int->AH->Prop) (h:AH):Prop:=
(f_qbm p4 p5 (λn1 h2=>
f_qdn p0 n1 (8:Int) (λn3 _ h5=>
f_qdo n3 (λb6 b7 b8 b9 b10 b11 b12 b13 n14 h15=>
Q b6 b7 b8 b9 b10 b11 b12 b13 n14 h15) h5) h2) h)
def qdp_A:qdp_T:=qdp_G qbm_A qdn_A qdo_A
def qdp_W (f:qdp_T):aW [.agg [.p,.p,.p,(.i .i64)],.c (.i .i64),.c (.i .i64)] EnR:=λp0 p1 p2 p3 p4 p5 K _Kp=>f p0 p1 p2 p3 p4 p5 (λr0 r1 r2 r3 r4 r5 r6 r7 r8=>K (.agg #[(.bool r0),(.bool r1),(.bool r2),(.bool r3),(.bool r4),(.bool r5),(.bool r6),(.bool r7),(.int .i64 r8)]))
abbrev qdq_T:=Option Addr->Option Addr->Option Addr->Int->Int->Int->(Sl->AH->Prop)->AP
def qdq_G (f_qdm:qdm_T) (f_qdp:qdp_T) (p0:Option Addr) (p1:Option Addr) (p2:Option Addr) (p3:Int) (p4:Int) (p5:Int) (Q:Sl->AH->Prop) (h:AH):Prop:=
(f_qdm p5 (λn1 n2 n3 n4 h5=>
aT h5 (.cells #[(.int .i64 (0:Int)),(.int .i64 (0:Int)),(.int .i64 (0:Int)),(.int .i64 (0:Int))] 195) λb6 h7=>
aC (mk b6 0 none) (.int .i64 n1) h7 λh8=>
aC (add (mk b6 0 none) 1) (.int .i64 n2) h8 λh9=>
aC (add (mk b6 0 none) 2) (.int .i64 n3) h9 λh10=>
aC (add (mk b6 0 none) 3) (.int .i64 n4) h10 λh11=>
aT h11 (.cells #[(.int .i64 p4)] 3) λb12 h13=>
∃ R14:Sl->AH->Prop,(∀ s38:Sl,∀ h39,R14 s38 h39->
Q s38 h39)/\
(∃ I15:Sl->Int->Nat->AH->Prop,(∃ m16,I15 (Sl.mk (some (mk b12 0 none)) 1 1) (0:Int) m16 h13)/\∀ s19:Sl,∀ x20:Int,∀ m16 h18,I15 s19 x20 m16 h18->
bsel (decide (x20<(3:Int)))
(aF s19.a λa21=>
bF x20 s19.len
(bF x20 4
(aI .i64 (add a21 (toNat x20*1)) h18 λn22=>
aI .i64 (add (mk b6 0 none) (toNat x20*1)) h18 λn23=>
f_qdp p0 p1 p2 p3 n22 n23 (λb24 _ _ _ _ _ _ _ n32 h33=>
bsel (!b24)
(R14 s19 h33)
(aT h33 (.cells #[(.int .i64 n32)] 3) λb34 h35=>
jZ 1 8 #[(.int .i64 (0:Int))] 3 s19 (Sl.mk (some (mk b34 0 none)) 1 1) h35 λs36 h37=>
∃ m17,m17<m16/\I15 s36 (wrap .i64 (x20+(1:Int))) m17 h37)) h18)))
(R14 s19 h18))) h)
def qdq_A:qdq_T:=qdq_G qdm_A qdp_A
def qdq_W (f:qdq_T):aW [.agg [.p,.p,.p,(.i .i64)],.c (.i .i64),.c (.i .i64)] EnR:=λp0 p1 p2 p3 p4 p5 K _Kp=>f p0 p1 p2 p3 p4 p5 (λr0=>K (.slice r0.a r0.len r0.cap))
abbrev qdr_T:=Option Addr->Option Addr->Option Addr->Int->Int->Int->(Int->Bool->Bool->Bool->Bool->AH->Prop)->AP
def qdr_G (f_qdq:qdq_T) (f_qdm:qdm_T) (f_qdp:qdp_T) (p0:Option Addr) (p1:Option Addr) (p2:Option Addr) (p3:Int) (p4:Int) (p5:Int) (Q:Int->Bool->Bool->Bool->Bool->AH->Prop) (h:AH):Prop:=
(∃ R1:Bool->Bool->Bool->AH->Prop,(∀ c2:Bool,∀ c3:Bool,∀ c4:Bool,∀ h5,R1 c2 c3 c4 h5->
f_qdq p0 p1 p2 p3 p4 p5 (λs6 h7=>
bsel (decide ((Int.ofNat s6.len)<(4:Int)))
(Q (0:Int) (false:Bool) (false:Bool) (false:Bool) false h7)
(aF s6.a λa8=>
bF (3:Int) s6.len
(aI .i64 (add a8 3) h7 λn9=>
f_qdm p5 (λn10 n11 n12 n13 h14=>
(aI .i64 (add a8 3) h14 λn15=>
((.int .i64 n15):Value)=(.int .i64 n9))/\
(geI .i64 [(.int .i64 n10),(.int .i64 n11),(.int .i64 n12),(.int .i64 n13)] 3 λn16=>
f_qdp p0 p1 p2 p3 n9 n16 (λb17 b18 b19 _ _ _ _ b24 n25 h26=>
bsel (!b17)
(Q (0:Int) (false:Bool) (false:Bool) (false:Bool) false h26)
(Q n25 b18 b19 ((!b24):Bool) true h26)) h14)) h7))) h5)/\
(bsel (decide (p5<(0:Int)))
(Q (0:Int) (false:Bool) (false:Bool) (false:Bool) false h)
(bsel (decide (p5>=(34359738368:Int)))
(Q (0:Int) (false:Bool) (false:Bool) (false:Bool) false h)
(R1 false false false h))))
def qdr_A:qdr_T:=qdr_G qdq_A qdm_A qdp_A
def qdr_W (f:qdr_T):aW [.agg [.p,.p,.p,(.i .i64)],.c (.i .i64),.c (.i .i64)] EnR:=λp0 p1 p2 p3 p4 p5 K _Kp=>f p0 p1 p2 p3 p4 p5 (λr0 r1 r2 r3 r4=>K (.tuple #[(.int .i64 r0),(.agg #[(.bool r1),(.bool r2),(.bool r3)]),(.bool r4)]))
abbrev qds_T:=Int->Bool->Bool->Bool->(Bool->Bool->Bool->Bool->Bool->Bool->Bool->Bool->Int->AH->Prop)->AP
def qds_A (p0:Int) (p1:Bool) (p2:Bool) (p3:Bool) (Q:Bool->Bool->Bool->Bool->Bool->Bool->Bool->Bool->Int->AH->Prop) (h:AH):Prop:=
(Q (true:Bool) p1 p2 (false:Bool) (false:Bool) (false:Bool) (false:Bool) ((!p3):Bool) p0 h)
def qds_W (f:qds_T):aW [.c (.i .i64),.agg [.b,.b,.b]] EnR:=λp0 p1 p2 p3 K _Kp=>f p0 p1 p2 p3 (λr0 r1 r2 r3 r4 r5 r6 r7 r8=>K (.agg #[(.bool r0),(.bool r1),(.bool r2),(.bool r3),(.bool r4),(.bool r5),(.bool r6),(.bool r7),(.int .i64 r8)]))
abbrev qdt_T:=Option Addr->Option Addr->Option Addr->Int->Int->Int->Int->Bool->Bool->Bool->(Int->AH->Prop)->AP
def qdt_G (f_qdm:qdm_T) (f_qdq:qdq_T) (f_qdp:qdp_T) (f_qbg:qbg_T) (f_qbi:qbi_T) (f_qbq:qbq_T) (f_qds:qds_T) (p0:Option Addr) (p1:Option Addr) (p2:Option Addr) (p3:Int) (p4:Int) (p5:Int) (p6:Int) (p7:Bool) (p8:Bool) (p9:Bool) (Q:Int->AH->Prop) (h:AH):Prop:=
(∃ R1:AH->Prop,(∀ h2,R1 h2->
f_qdm p5 (λn3 n4 n5 n6 h7=>
f_qdq p0 p1 p2 p3 p4 p5 (λs8 h9=>
aT h9 (.cells #[(.int .i64 (0:Int)),(.int .i64 (0:Int)),(.int .i64 (0:Int)),(.int .i64 (0:Int))] 195) λb10 h11=>
aC (mk b10 0 none) (.int .i64 n3) h11 λh12=>
aC (add (mk b10 0 none) 1) (.int .i64 n4) h12 λh13=>
aC (add (mk b10 0 none) 2) (.int .i64 n5) h13 λh14=>
aC (add (mk b10 0 none) 3) (.int .i64 n6) h14 λh15=>
∃ R16:AH->Prop,(∀ h30,R16 h30->
∃ I31:Sl->Int->Nat->AH->Prop,(∃ m32,I31 Sl.nil (0:Int) m32 h30)/\∀ s35:Sl,∀ x36:Int,∀ m32 h34,I31 s35 x36 m32 h34->
bsel (decide (x36<(wrap .i64 ((4:Int)-(Int.ofNat s8.len)))))
(f_qbg p0 p1 p2 p3 (λn37 n38 h39=>
bsel (n38 != (0:Int))
(∃ I40:Int->Nat->AH->Prop,(∃ m41,I40 (0:Int) m41 h39)/\∀ x44:Int,∀ m41 h43,I40 x44 m41 h43->
bsel (decide (x44<(Int.ofNat s35.len)))
(aF s35.a λa45=>
bF x44 s35.len
(aI .i64 (add a45 (toNat x44*1)) h43 λn46=>
f_qbi p0 p1 p2 p3 n46 (λh47=>
∃ m42,m42<m41/\I40 (wrap .i64 (x44+(1:Int))) m42 h47) h43))
(Q n38 h43))
(aT h39 (.cells #[(.int .i64 n37)] 3) λb48 h49=>
jZ 1 8 #[(.int .i64 (0:Int))] 3 s35 (Sl.mk (some (mk b48 0 none)) 1 1) h49 λs50 h51=>
∃ m33,m33<m32/\I31 s50 (wrap .i64 (x36+(1:Int))) m33 h51)) h34)
(∃ I52:Sl->Int->Nat->AH->Prop,(∃ m53,I52 s8 (0:Int) m53 h34)/\∀ s56:Sl,∀ x57:Int,∀ m53 h55,I52 s56 x57 m53 h55->
bsel (decide (x57<(Int.ofNat s35.len)))
(aF s35.a λa58=>
bF x57 s35.len
(aI .i64 (add a58 (toNat x57*1)) h55 λn59=>
aF s56.a λa60=>
bF (wrap .i64 ((Int.ofNat s56.len)-(1:Int))) s56.len
(aI .i64 (add a60 (toNat (wrap .i64 ((Int.ofNat s56.len)-(1:Int)))*1)) h55 λn61=>
bF (wrap .i64 ((Int.ofNat s56.len)-(1:Int))) 4
(aI .i64 (add (mk b10 0 none) (toNat (wrap .i64 ((Int.ofNat s56.len)-(1:Int)))*1)) h55 λn62=>
f_qbq p0 p1 p2 p3 n61 n62 true true true false false false false false n59 (λh63=>
aT h63 (.cells #[(.int .i64 n59)] 3) λb64 h65=>
jZ 1 8 #[(.int .i64 (0:Int))] 3 s56 (Sl.mk (some (mk b64 0 none)) 1 1) h65 λs66 h67=>
∃ m54,m54<m53/\I52 s66 (wrap .i64 (x57+(1:Int))) m54 h67) h55))))
(aF s56.a λa68=>
bF (3:Int) s56.len
(aI .i64 (add a68 3) h55 λn69=>
aI .i64 (add (mk b10 0 none) 3) h55 λn70=>
f_qds p6 p7 p8 p9 (λb71 b72 b73 b74 b75 b76 b77 b78 n79 h80=>
(aI .i64 (add (mk b10 0 none) 3) h80 λn81=>
((.int .i64 n81):Value)=(.int .i64 n70))/\
((aI .i64 (add a68 3) h80 λn82=>
((.int .i64 n82):Value)=(.int .i64 n69))/\
(f_qbq p0 p1 p2 p3 n69 n70 b71 b72 b73 b74 b75 b76 b77 b78 n79 (λh83=>
Q (0:Int) h83) h80))) h55))))/\
(bsel ((Int.ofNat s8.len)==(4:Int))
(aF s8.a λa17=>
bF (3:Int) s8.len
(aI .i64 (add a17 3) h15 λn18=>
aI .i64 (add (mk b10 0 none) 3) h15 λn19=>
f_qdp p0 p1 p2 p3 n18 n19 (λb20 _ _ _ _ _ _ _ _ h29=>
bsel b20
(Q (6:Int) h29)
(R16 h29)) h15))
(R16 h15))) h7) h2)/\
(bsel (decide (p5<(0:Int)))
(Q (1:Int) h)
(bsel (decide (p5>=(34359738368:Int)))
(Q (1:Int) h)
(bsel (decide (p6<(0:Int)))
(Q (1:Int) h)
(bsel (decide (p6>=(1048576:Int)))
(Q (1:Int) h)
(R1 h))))))
def qdt_A:qdt_T:=qdt_G qdm_A qdq_A qdp_A qbg_A qbi_A qbq_A qds_A
def qdt_W (f:qdt_T):aW [.agg [.p,.p,.p,(.i .i64)],.c (.i .i64),.c (.i .i64),.c (.i .i64),.agg [.b,.b,.b]] EnR:=λp0 p1 p2 p3 p4 p5 p6 p7 p8 p9 K _Kp=>f p0 p1 p2 p3 p4 p5 p6 p7 p8 p9 (λr0=>K (.int .i64 r0))
abbrev qdu_T:=Option Addr->Int->Int->Bool->Bool->Bool->(Int->Int->Int->AH->Prop)->AP
def qdu_G (f_qdk:qdk_T) (f_qau:qau_T) (f_qdr:qdr_T) (f_qdj:qdj_T) (f_qbg:qbg_T) (f_qdt:qdt_T) (f_qbi:qbi_T) (p0:Option Addr) (p1:Int) (p2:Int) (p3:Bool) (p4:Bool) (p5:Bool) (Q:Int->Int->Int->AH->Prop) (h:AH):Prop:=
(aF p0 λa1=>
aM (add a1 6) h λmp2=>
qP h mp2 .i64 p1 λo3=>
∃ pt4:Option Addr,((o3.getD (.pointer none)):Value)=(.pointer pt4)/\
(bsel pt4.isNone
(Q (0:Int) (0:Int) (5:Int) h)
(aT h (.cells #[(.bool p3),(.bool p4)] 4) λb5 h6=>
∃ I7:Int->Int->Nat->AH->Prop,(∃ m8,I7 (0:Int) (0:Int) m8 h6)/\∀ x11:Int,∀ x12:Int,∀ m8 h10,I7 x11 x12 m8 h10->
bsel (decide (x12<(2:Int)))
(∃ R13:Int->AH->Prop,(∀ x15:Int,∀ h16,R13 x15 h16->
∃ m9,m9<m8/\I7 x15 (wrap .i64 (x12+(1:Int))) m9 h16)/\
(bF x12 2
(aB (add (mk b5 0 none) (toNat x12*1)) h10 λb14=>
bsel b14
(bsel (decide (x12<0)) False
(R13 (bits .or .i64 x11 (wrap .i64 ((2:Int)*2 ^ (min (toNat x12) 64)))) h10))
(R13 x11 h10))))
(∃ R17:Int->AH->Prop,(∀ x18:Int,∀ h19,R17 x18 h19->
aF pt4 λa20=>
aS (add a20 2) h19 λs21=>
f_qdk s21 p2 (λ_ _ b24 b25 b26 _ b28 h29=>
bsel (!b28)
(Q (0:Int) x18 (9:Int) h29)
(aF pt4 λa30=>
aI .i64 a30 h29 λn31=>
f_qau p0 n31 (λpt32 pt33 pt34 n35 h36=>
aF pt4 λa37=>
aI .i64 (add a37 1) h36 λn38=>
f_qdr pt32 pt33 pt34 n35 n38 p2 (λn39 _ _ _ b43 h44=>
f_qdj b24 b25 b26 p3 p4 p5 (λb45 h46=>
bsel (!b45)
(∃ R47:Int->AH->Prop,(∀ x48:Int,∀ h49,R47 x48 h49->
Q (0:Int) x48 (9:Int) h49)/\
(bsel b43
(R47 (bits .or .i64 x18 (1:Int)) h46)
(R47 x18 h46)))
(bsel b43
(Q n39 (0:Int) (0:Int) h46)
(f_qbg pt32 pt33 pt34 n35 (λn50 n51 h52=>
bsel (n51 != (0:Int))
(Q (0:Int) (0:Int) n51 h52)
(aF pt4 λa53=>
aI .i64 (add a53 1) h52 λn54=>
f_qdt pt32 pt33 pt34 n35 n54 p2 n50 b24 b25 b26 (λn55 h56=>
bsel (n55 != (0:Int))
(f_qbi pt32 pt33 pt34 n35 n50 (λh57=>
Q (0:Int) (0:Int) n55 h57) h56)
(Q n50 (0:Int) (0:Int) h56)) h52)) h46))) h44) h36) h29)) h19)/\
(bsel p5
(R17 (bits .or .i64 x11 (16:Int)) h10)
(R17 x11 h10))))))
def qdu_A:qdu_T:=qdu_G qdk_A qau_A qdr_A qdj_A qbg_A qdt_A qbi_A
def qdu_W (f:qdu_T):aW [.c .p,.c (.i .i64),.c (.i .i64),.agg [.b,.b,.b]] EnR:=λp0 p1 p2 p3 p4 p5 K _Kp=>f p0 p1 p2 p3 p4 p5 (λr0 r1 r2=>K (.tuple #[(.int .i64 r0),(.int .i64 r1),(.int .i64 r2)]))
abbrev qdv_T:=Int->(Bool->AH->Prop)->AP
def qdv_A (p0:Int) (Q:Bool->AH->Prop) (h:AH):Prop:=
(bsel ((Int.fdiv p0 (2 ^ (47:Nat)))==(0:Int))
(Q true h)
(Q ((Int.fdiv p0 (2 ^ (47:Nat)))==(131071:Int)) h))
def qdv_W (f:qdv_T):aW [.c (.i .u64)] EnR:=λp0 K _Kp=>f p0 (λr0=>K (.bool r0))
abbrev qdw_T:=Option Addr->Int->(AH->Prop)->(Value->AP)->AP
def qdw_A (p0:Option Addr) (p1:Int) (_Q:AH->Prop) (Kp:Value->AP) (h:AH):Prop:=
(∃ R1:Int->AH->Prop,(∀ x4:Int,∀ h5,R1 x4 h5->
∃ R6:Int->AH->Prop,(∀ x9:Int,∀ h10,R6 x9 h10->
∃ R11:Int->AH->Prop,(∀ x14:Int,∀ h15,R11 x14 h15->
aF p0 λa16=>
aI .u64 (add a16 1) h15 λn17=>
Kp (.iface 317 (.agg #[(.int .u64 n17),(.int .i64 x14),(.int .i64 (9:Int))])) h15)/\
(aF p0 λa12=>
aB (add (add a12 2) 2) h10 λb13=>
bsel b13
(R11 (bits .or .i64 x9 (16:Int)) h10)
(R11 x9 h10)))/\
(aF p0 λa7=>
aB (add (add a7 2) 1) h5 λb8=>
bsel b8
(R6 (bits .or .i64 x4 (4:Int)) h5)
(R6 x4 h5)))/\
(aF p0 λa2=>
aB (add a2 2) h λb3=>
bsel b3
(R1 (bits .or .i64 p1 (2:Int)) h)
(R1 p1 h)))
def qdw_W (f:qdw_T):aW [.c .p,.c (.i .i64)] EnR:=λp0 p1 K Kp=>f p0 p1 (K (.tuple #[])) Kp
abbrev qdx_T:=Int->Int->(Bool->AH->Prop)->AP
def qdx_A (p0:Int) (p1:Int) (Q:Bool->AH->Prop) (h:AH):Prop:=
(bsel ((bits .and .u64 p0 (1:Int))==(0:Int))
(Q false h)
(bsel ((bits .and .u64 (Int.fdiv p0 (2 ^ (32:Nat))) (1048575:Int)) != (0:Int))
(Q true h)
(bsel (decide (p1>=(3:Int)))
(Q ((bits .and .u64 (Int.fdiv p0 (2 ^ (7:Nat))) (1:Int))==(1:Int)) h)
(bsel (p1==(2:Int))
(bsel ((bits .and .u64 (Int.fdiv p0 (2 ^ (7:Nat))) (1:Int))==(1:Int))
(Q ((bits .and .u64 (Int.fdiv p0 (2 ^ (12:Nat))) (511:Int)) != (0:Int)) h)
(Q false h))
(Q false h)))))
def qdx_W (f:qdx_T):aW [.c (.i .u64),.c (.i .i64)] EnR:=λp0 p1 K _Kp=>f p0 p1 (λr0=>K (.bool r0))
abbrev qdy_T:=Option Addr->Int->Int->Int->(Int->Int->AH->Prop)->(Value->AP)->AP
def qdy_G (f_qdn:qdn_T) (f_qdw:qdw_T) (f_qdx:qdx_T) (f_qdo:qdo_T) (p0:Option Addr) (p1:Int) (p2:Int) (p3:Int) (Q:Int->Int->AH->Prop) (Kp:Value->AP) (h:AH):Prop:=
(aF p0 λa1=>
aP a1 h λpt2=>
f_qdn pt2 (wrap .u64 ((wrap .u64 ((wrap .u64 p1)*(4096:Int)))+(wrap .u64 (wrap .i64 ((8:Int)*p2))))) (8:Int) (λn3 n4 h5=>
∃ R6:AH->Prop,(∀ h7,R6 h7->
∃ R8:AH->Prop,(∀ h12,R8 h12->
∃ R13:AH->Prop,(∀ h19,R13 h19->
f_qdo n3 (λ_ b21 b22 _ _ _ _ b27 _ h29=>
∃ R30:AH->Prop,(∀ h37,R30 h37->
∃ R38:AH->Prop,(∀ h45,R38 h45->
aF p0 λa46=>
aB (add (add a46 5) 2) h45 λb47=>
bsel b47
(aF p0 λa48=>
aC (add (add a48 5) 2) (.bool (!b27)) h45 λh49=>
Q n3 (wrap .u64 ((wrap .u64 ((wrap .u64 p1)*(4096:Int)))+(wrap .u64 (wrap .i64 ((8:Int)*p2))))) h49)
(aF p0 λa50=>
aC (add (add a50 5) 2) (.bool false) h45 λh51=>
Q n3 (wrap .u64 ((wrap .u64 ((wrap .u64 p1)*(4096:Int)))+(wrap .u64 (wrap .i64 ((8:Int)*p2))))) h51))/\
(aF p0 λa39=>
aB (add (add a39 5) 1) h37 λb40=>
bsel b40
(aF p0 λa41=>
aC (add (add a41 5) 1) (.bool b22) h37 λh42=>
R38 h42)
(aF p0 λa43=>
aC (add (add a43 5) 1) (.bool false) h37 λh44=>
R38 h44)))/\
(aF p0 λa31=>
aB (add a31 5) h29 λb32=>
bsel b32
(aF p0 λa33=>
aC (add a33 5) (.bool b21) h29 λh34=>
R30 h34)
(aF p0 λa35=>
aC (add a35 5) (.bool false) h29 λh36=>
R30 h36))) h19)/\
(f_qdx n3 p3 (λb14 h15=>
bsel b14
(f_qdw p0 (9:Int) (λh16=>
R13 h16) (λv17 h18=>Kp v17 h18) h15)
(R13 h15)) h12))/\
(bsel ((bits .and .u64 n3 (1:Int))==(0:Int))
(f_qdw p0 (0:Int) (λh9=>
R8 h9) (λv10 h11=>Kp v10 h11) h7)
(R8 h7)))/\
(bsel (n4 != (0:Int))
(Kp (.iface 317 (.agg #[(.int .u64 (0:Int)),(.int .i64 (0:Int)),(.int .i64 n4)])) h5)
(R6 h5))) h)
def qdy_A:qdy_T:=qdy_G qdn_A qdw_A qdx_A qdo_A
def qdy_W (f:qdy_T):aW [.c .p,.c (.i .i64),.c (.i .i64),.c (.i .i64)] EnR:=λp0 p1 p2 p3 K Kp=>f p0 p1 p2 p3 (λr0 r1=>K (.tuple #[(.int .u64 r0),(.int .u64 r1)])) Kp
abbrev qdz_T:=Option Addr->Sl->Bool->(AH->Prop)->AP
def qdz_G (f_qdn:qdn_T) (f_qbp:qbp_T) (p0:Option Addr) (p1:Sl) (p2:Bool) (Q:AH->Prop) (h:AH):Prop:=
(∃ I1:Int->Nat->AH->Prop,(∃ m2,I1 (0:Int) m2 h)/\∀ x5:Int,∀ m2 h4,I1 x5 m2 h4->
bsel (decide (x5<(Int.ofNat p1.len)))
(∃ R6:AH->Prop,(∀ h17,R6 h17->
∃ m3,m3<m2/\I1 (wrap .i64 (x5+(1:Int))) m3 h17)/\
(aF p1.a λa7=>
bF x5 p1.len
(aI .u64 (add a7 (toNat x5*1)) h4 λn8=>
f_qdn p0 n8 (8:Int) (λn9 _ h11=>
∃ R12:Int->AH->Prop,(∀ x13:Int,∀ h14,R12 x13 h14->
bsel (x13 != n9)
(f_qbp p0 n8 (8:Int) x13 (λ_ h16=>
R6 h16) h14)
(R6 h14))/\
(bsel p2
(bsel (x5==(wrap .i64 ((Int.ofNat p1.len)-(1:Int))))
(R12 (bits .or .u64 (bits .or .u64 n9 (32:Int)) (64:Int)) h11)
(R12 (bits .or .u64 n9 (32:Int)) h11))
(R12 (bits .or .u64 n9 (32:Int)) h11))) h4)))
(Q h4))
def qdz_A:qdz_T:=qdz_G qdn_A qbp_A
def qdz_W (f:qdz_T):aW [.c .p,.c .s,.c .b] EnR:=λp0 p1 p2 K _Kp=>f p0 p1 p2 (K (.tuple #[]))
abbrev qea_Tn:=Option Addr->Option Addr->Option Addr->AP->AP
def qea_nA (_p0:Option Addr) (_p1:Option Addr) (_p2:Option Addr) (K:AP) (h:AH):Prop:=
(K h)
abbrev qea_Tp:=Option Addr->Option Addr->Option Addr->Int->Int->Int->AP->AP
def qea_pA (p0:Option Addr) (p1:Option Addr) (p2:Option Addr) (y0:Int) (y1:Int) (y2:Int) (K:AP) (h:AH):Prop:=
(aF p0 λa1=>
aC a1 (.int .i64 (0:Int)) h λh2=>
aC (add a1 1) (.bool false) h2 λh3=>
aC (add a1 2) (.bool false) h3 λh4=>
aC (add a1 3) (.bool false) h4 λh5=>
aC (add a1 4) (.bool false) h5 λh6=>
aC (add a1 5) (.bool false) h6 λh7=>
aC (add a1 6) (.bool false) h7 λh8=>
aF p1 λa9=>
aC a9 (.int .u64 y0) h8 λh10=>
aC (add a9 1) (.int .i64 y1) h10 λh11=>
aF p2 λa12=>
aC a12 (.int .i64 y2) h11 λh13=>
K h13)
abbrev qea_Tv:=Option Addr->Option Addr->Option Addr->Value->AP->AP
def qea_vA (f_p:qea_Tp):qea_Tv:=λp0 p1 p2 v K h=>dpS [.c .p,.c .p,.c .p] 317 [(.i .u64),(.i .i64),(.i .i64)] f_p [(.pointer p0),(.pointer p1),(.pointer p2)] v K h
abbrev qeb_T:=Option Addr->Int->Int->Bool->Bool->Bool->(Int->Bool->Bool->Bool->Bool->Bool->Bool->Int->Int->Int->AH->Prop)->AP
def qeb_G (f_qdv:qdv_T) (f_qbc:qbc_T) (f_qdl:qdl_T) (f_qdy:qdy_T) (f_qdo:qdo_T) (f_qdj:qdj_T) (f_qdw:qdw_T) (f_qdz:qdz_T) (f_qea_n:qea_Tn) (f_qea_v:qea_Tv) (p0:Option Addr) (p1:Int) (p2:Int) (p3:Bool) (p4:Bool) (p5:Bool) (Q:Int->Bool->Bool->Bool->Bool->Bool->Bool->Int->Int->Int->AH->Prop) (h:AH):Prop:=
(aT h (.cells #[(.int .i64 (0:Int)),(.bool false),(.bool false),(.bool false),(.bool false),(.bool false),(.bool false)] 273) λb1 h2=>
aT h2 (.cells #[(.int .u64 (0:Int)),(.int .i64 (0:Int))] 39) λb3 h4=>
aT h4 (.cells #[(.int .i64 (0:Int))] 26) λb5 h6=>
f_qdv p2 (λb7 h8=>
bsel (!b7)
(aC (mk b1 0 none) (.int .i64 (0:Int)) h8 λh9=>
aC (add (mk b1 0 none) 1) (.bool false) h9 λh10=>
aC (add (mk b1 0 none) 2) (.bool false) h10 λh11=>
aC (add (mk b1 0 none) 3) (.bool false) h11 λh12=>
aC (add (mk b1 0 none) 4) (.bool false) h12 λh13=>
aC (add (mk b1 0 none) 5) (.bool false) h13 λh14=>
aC (add (mk b1 0 none) 6) (.bool false) h14 λh15=>
aC (mk b3 0 none) (.int .u64 (0:Int)) h15 λh16=>
aC (add (mk b3 0 none) 1) (.int .i64 (0:Int)) h16 λh17=>
aC (mk b5 0 none) (.int .i64 (1:Int)) h17 λh18=>
f_qea_n (some (mk b1 0 none)) (some (mk b3 0 none)) (some (mk b5 0 none)) (λh19=>
aI .i64 (mk b1 0 none) h19 λn20=>
aB (add (mk b1 0 none) 1) h19 λb21=>
aB (add (mk b1 0 none) 2) h19 λb22=>
aB (add (mk b1 0 none) 3) h19 λb23=>
aB (add (mk b1 0 none) 4) h19 λb24=>
aB (add (mk b1 0 none) 5) h19 λb25=>
aB (add (mk b1 0 none) 6) h19 λb26=>
aI .u64 (mk b3 0 none) h19 λn27=>
aI .i64 (add (mk b3 0 none) 1) h19 λn28=>
aI .i64 (mk b5 0 none) h19 λn29=>
Q n20 b21 b22 b23 b24 b25 b26 n27 n28 n29 h19) h18)
(f_qbc p0 p1 (λb30 h31=>
bsel (!b30)
(aC (mk b1 0 none) (.int .i64 (0:Int)) h31 λh32=>
aC (add (mk b1 0 none) 1) (.bool false) h32 λh33=>
aC (add (mk b1 0 none) 2) (.bool false) h33 λh34=>
aC (add (mk b1 0 none) 3) (.bool false) h34 λh35=>
aC (add (mk b1 0 none) 4) (.bool false) h35 λh36=>
aC (add (mk b1 0 none) 5) (.bool false) h36 λh37=>
aC (add (mk b1 0 none) 6) (.bool false) h37 λh38=>
aC (mk b3 0 none) (.int .u64 (0:Int)) h38 λh39=>
aC (add (mk b3 0 none) 1) (.int .i64 (0:Int)) h39 λh40=>
aC (mk b5 0 none) (.int .i64 (2:Int)) h40 λh41=>
f_qea_n (some (mk b1 0 none)) (some (mk b3 0 none)) (some (mk b5 0 none)) (λh42=>
aI .i64 (mk b1 0 none) h42 λn43=>
aB (add (mk b1 0 none) 1) h42 λb44=>
aB (add (mk b1 0 none) 2) h42 λb45=>
aB (add (mk b1 0 none) 3) h42 λb46=>
aB (add (mk b1 0 none) 4) h42 λb47=>
aB (add (mk b1 0 none) 5) h42 λb48=>
aB (add (mk b1 0 none) 6) h42 λb49=>
aI .u64 (mk b3 0 none) h42 λn50=>
aI .i64 (add (mk b3 0 none) 1) h42 λn51=>
aI .i64 (mk b5 0 none) h42 λn52=>
Q n43 b44 b45 b46 b47 b48 b49 n50 n51 n52 h42) h41)
(aT h31 (.cells #[(.pointer p0),(.int .u64 p2),(.bool p3),(.bool p4),(.bool p5),(.bool true),(.bool true),(.bool true)] 321) λb53 h54=>
f_qdl p2 (λn55 n56 n57 n58 _ h60=>
aT h60 (.cells #[(.int .i64 (0:Int)),(.int .i64 (0:Int)),(.int .i64 (0:Int)),(.int .i64 (0:Int))] 195) λb61 h62=>
aC (mk b61 0 none) (.int .i64 n55) h62 λh63=>
aC (add (mk b61 0 none) 1) (.int .i64 n56) h63 λh64=>
aC (add (mk b61 0 none) 2) (.int .i64 n57) h64 λh65=>
aC (add (mk b61 0 none) 3) (.int .i64 n58) h65 λh66=>
∃ R67:Sl->AH->Prop,(∀ s154:Sl,∀ h155,R67 s154 h155->
f_qdz p0 s154 p3 (λh156=>
aI .i64 (mk b1 0 none) h156 λn157=>
aB (add (mk b1 0 none) 1) h156 λb158=>
aB (add (mk b1 0 none) 2) h156 λb159=>
aB (add (mk b1 0 none) 3) h156 λb160=>
aB (add (mk b1 0 none) 4) h156 λb161=>
aB (add (mk b1 0 none) 5) h156 λb162=>
aB (add (mk b1 0 none) 6) h156 λb163=>
aC (mk b1 0 none) (.int .i64 n157) h156 λh164=>
aC (add (mk b1 0 none) 1) (.bool b158) h164 λh165=>
aC (add (mk b1 0 none) 2) (.bool b159) h165 λh166=>
aC (add (mk b1 0 none) 3) (.bool b160) h166 λh167=>
aC (add (mk b1 0 none) 4) (.bool b161) h167 λh168=>
aC (add (mk b1 0 none) 5) (.bool b162) h168 λh169=>
aC (add (mk b1 0 none) 6) (.bool b163) h169 λh170=>
aC (mk b3 0 none) (.int .u64 (0:Int)) h170 λh171=>
aC (add (mk b3 0 none) 1) (.int .i64 (0:Int)) h171 λh172=>
aC (mk b5 0 none) (.int .i64 (0:Int)) h172 λh173=>
f_qea_n (some (mk b1 0 none)) (some (mk b3 0 none)) (some (mk b5 0 none)) (λh174=>
aI .i64 (mk b1 0 none) h174 λn175=>
aB (add (mk b1 0 none) 1) h174 λb176=>
aB (add (mk b1 0 none) 2) h174 λb177=>
aB (add (mk b1 0 none) 3) h174 λb178=>
aB (add (mk b1 0 none) 4) h174 λb179=>
aB (add (mk b1 0 none) 5) h174 λb180=>
aB (add (mk b1 0 none) 6) h174 λb181=>
aI .u64 (mk b3 0 none) h174 λn182=>
aI .i64 (add (mk b3 0 none) 1) h174 λn183=>
aI .i64 (mk b5 0 none) h174 λn184=>
Q n175 b176 b177 b178 b179 b180 b181 n182 n183 n184 h174) h173) h155)/\
(∃ I68:Sl->Int->Int->Nat->AH->Prop,(∃ m69,I68 Sl.nil p1 (4:Int) m69 h66)/\∀ s72:Sl,∀ x73:Int,∀ x74:Int,∀ m69 h71,I68 s72 x73 x74 m69 h71->
bsel (decide (x74>=(1:Int)))
(bF (wrap .i64 ((4:Int)-x74)) 4
(aI .i64 (add (mk b61 0 none) (toNat (wrap .i64 ((4:Int)-x74))*1)) h71 λn75=>
f_qdy (some (mk b53 0 none)) x73 n75 x74 (λn76 n77 h78=>
aT h78 (.cells #[(.int .u64 n77)] 22) λb92 h93=>
jZ 1 8 #[(.int .u64 (0:Int))] 22 s72 (Sl.mk (some (mk b92 0 none)) 1 1) h93 λs94 h95=>
f_qdo n76 (λ_ _ _ _ b100 b101 b102 _ n104 h105=>
∃ R106:AH->Prop,(∀ h107,R106 h107->
∃ R108:AH->Prop,(∀ h128,R108 h128->
aB (add (mk b53 0 none) 5) h128 λb129=>
aB (add (add (mk b53 0 none) 5) 1) h128 λb130=>
aB (add (add (mk b53 0 none) 5) 2) h128 λb131=>
bsel b100
(aC (mk b1 0 none) (.int .i64 n104) h128 λh132=>
aC (add (mk b1 0 none) 1) (.bool b129) h132 λh133=>
aC (add (mk b1 0 none) 2) (.bool b130) h133 λh134=>
aC (add (mk b1 0 none) 3) (.bool b131) h134 λh135=>
aC (add (mk b1 0 none) 4) (.bool b102) h135 λh136=>
aC (add (mk b1 0 none) 5) (.bool (x74==(2:Int))) h136 λh137=>
aC (add (mk b1 0 none) 6) (.bool true) h137 λh138=>
aB (add (mk b1 0 none) 5) h138 λb139=>
bsel b139
(aI .i64 (mk b1 0 none) h138 λn140=>
aI .i64 (add (mk b61 0 none) 3) h138 λn141=>
aC (mk b1 0 none) (.int .i64 (wrap .i64 (n140+n141))) h138 λh142=>
R67 s94 h142)
(R67 s94 h138))
(aC (mk b1 0 none) (.int .i64 n104) h128 λh143=>
aC (add (mk b1 0 none) 1) (.bool b129) h143 λh144=>
aC (add (mk b1 0 none) 2) (.bool b130) h144 λh145=>
aC (add (mk b1 0 none) 3) (.bool b131) h145 λh146=>
aC (add (mk b1 0 none) 4) (.bool b102) h146 λh147=>
aC (add (mk b1 0 none) 5) (.bool (x74==(2:Int))) h147 λh148=>
aC (add (mk b1 0 none) 6) (.bool p3) h148 λh149=>
aB (add (mk b1 0 none) 5) h149 λb150=>
bsel b150
(aI .i64 (mk b1 0 none) h149 λn151=>
aI .i64 (add (mk b61 0 none) 3) h149 λn152=>
aC (mk b1 0 none) (.int .i64 (wrap .i64 (n151+n152))) h149 λh153=>
R67 s94 h153)
(R67 s94 h149)))/\
(aB (add (mk b53 0 none) 5) h107 λb109=>
aB (add (add (mk b53 0 none) 5) 1) h107 λb110=>
aB (add (add (mk b53 0 none) 5) 2) h107 λb111=>
f_qdj b109 b110 b111 p3 p4 p5 (λb112 h113=>
bsel (!b112)
(f_qdw (some (mk b53 0 none)) (1:Int) (λh114=>
R108 h114) (λv115 h116=>f_qea_v (some (mk b1 0 none)) (some (mk b3 0 none)) (some (mk b5 0 none)) v115 (λh117=>
aI .i64 (mk b1 0 none) h117 λn118=>
aB (add (mk b1 0 none) 1) h117 λb119=>
aB (add (mk b1 0 none) 2) h117 λb120=>
aB (add (mk b1 0 none) 3) h117 λb121=>
aB (add (mk b1 0 none) 4) h117 λb122=>
aB (add (mk b1 0 none) 5) h117 λb123=>
aB (add (mk b1 0 none) 6) h117 λb124=>
aI .u64 (mk b3 0 none) h117 λn125=>
aI .i64 (add (mk b3 0 none) 1) h117 λn126=>
aI .i64 (mk b5 0 none) h117 λn127=>
Q n118 b119 b120 b121 b122 b123 b124 n125 n126 n127 h117) h116) h113)
(R108 h113)) h107))/\
(bsel (decide (x74 > (1:Int)))
(bsel (x74==(2:Int))
(bsel (!b101)
(∃ m70,m70<m69/\I68 s94 n104 (wrap .i64 (x74-(1:Int))) m70 h105)
(R106 h105))
(∃ m70,m70<m69/\I68 s94 n104 (wrap .i64 (x74-(1:Int))) m70 h105))
(R106 h105))) h95) (λv79 h80=>f_qea_v (some (mk b1 0 none)) (some (mk b3 0 none)) (some (mk b5 0 none)) v79 (λh81=>
aI .i64 (mk b1 0 none) h81 λn82=>
aB (add (mk b1 0 none) 1) h81 λb83=>
aB (add (mk b1 0 none) 2) h81 λb84=>
aB (add (mk b1 0 none) 3) h81 λb85=>
aB (add (mk b1 0 none) 4) h81 λb86=>
aB (add (mk b1 0 none) 5) h81 λb87=>
aB (add (mk b1 0 none) 6) h81 λb88=>
aI .u64 (mk b3 0 none) h81 λn89=>
aI .i64 (add (mk b3 0 none) 1) h81 λn90=>
aI .i64 (mk b5 0 none) h81 λn91=>
Q n82 b83 b84 b85 b86 b87 b88 n89 n90 n91 h81) h80) h71))
(R67 s72 h71))) h54)) h8)) h6)
def qeb_A:qeb_T:=qeb_G qdv_A qbc_A qdl_A qdy_A qdo_A qdj_A qdw_A qdz_A qea_nA (qea_vA qea_pA)
def qeb_W (f:qeb_T):aW [.c .p,.c (.i .i64),.c (.i .u64),.agg [.b,.b,.b]] EnR:=λp0 p1 p2 p3 p4 p5 K _Kp=>f p0 p1 p2 p3 p4 p5 (λr0 r1 r2 r3 r4 r5 r6 r7 r8 r9=>K (.tuple #[(.agg #[(.int .i64 r0),(.bool r1),(.bool r2),(.bool r3),(.bool r4),(.bool r5),(.bool r6)]),(.agg #[(.int .u64 r7),(.int .i64 r8)]),(.int .i64 r9)]))
abbrev qec_T:=Option Addr->Int->Bool->Int->Int->Int->Bool->Bool->Bool->Bool->Bool->(Int->AH->Prop)->AP
def qec_G (f_qde:qde_T) (f_qdf:qdf_T) (p0:Option Addr) (p1:Int) (p2:Bool) (p3:Int) (p4:Int) (p5:Int) (p6:Bool) (p7:Bool) (p8:Bool) (p9:Bool) (p10:Bool) (Q:Int->AH->Prop) (h:AH):Prop:=
(∃ R1:AH->Prop,(∀ h2,R1 h2->
aF p0 λa3=>
f_qde p4 (λn4 h5=>
bF n4 8
(∃ I6:Int->Nat->AH->Prop,(∃ m7,I6 (0:Int) m7 h5)/\∀ x10:Int,∀ m7 h9,I6 x10 m7 h9->
bsel (decide (x10<(2:Int)))
(∃ R11:AH->Prop,(∀ h43,R11 h43->
∃ m8,m8<m7/\I6 (wrap .i64 (x10+(1:Int))) m8 h43)/\
(bF x10 2
(aB (add (add a3 (toNat n4*18)) (toNat x10*9)) h9 λb12=>
aI .i64 (add (add (add a3 (toNat n4*18)) (toNat x10*9)) 1) h9 λn13=>
aI .i64 (add (add (add a3 (toNat n4*18)) (toNat x10*9)) 2) h9 λn14=>
aI .i64 (add (add (add a3 (toNat n4*18)) (toNat x10*9)) 3) h9 λn15=>
aB (add (add (add a3 (toNat n4*18)) (toNat x10*9)) 4) h9 λb16=>
aB (add (add (add a3 (toNat n4*18)) (toNat x10*9)) 5) h9 λb17=>
aB (add (add (add a3 (toNat n4*18)) (toNat x10*9)) 6) h9 λb18=>
aB (add (add (add a3 (toNat n4*18)) (toNat x10*9)) 7) h9 λb19=>
aB (add (add (add a3 (toNat n4*18)) (toNat x10*9)) 8) h9 λb20=>
f_qdf b12 n13 n14 n15 b16 b17 b18 b19 b20 p3 p4 (λb21 h22=>
bsel b21
(bF x10 2
(aC (add (add a3 (toNat n4*18)) (toNat x10*9)) (.bool false) h22 λh23=>
aC (add (add (add a3 (toNat n4*18)) (toNat x10*9)) 1) (.int .i64 (0:Int)) h23 λh24=>
aC (add (add (add a3 (toNat n4*18)) (toNat x10*9)) 2) (.int .i64 (0:Int)) h24 λh25=>
aC (add (add (add a3 (toNat n4*18)) (toNat x10*9)) 3) (.int .i64 (0:Int)) h25 λh26=>
aC (add (add (add a3 (toNat n4*18)) (toNat x10*9)) 4) (.bool false) h26 λh27=>
aC (add (add (add a3 (toNat n4*18)) (toNat x10*9)) 5) (.bool false) h27 λh28=>
aC (add (add (add a3 (toNat n4*18)) (toNat x10*9)) 6) (.bool false) h28 λh29=>
aC (add (add (add a3 (toNat n4*18)) (toNat x10*9)) 7) (.bool false) h29 λh30=>
aC (add (add (add a3 (toNat n4*18)) (toNat x10*9)) 8) (.bool false) h30 λh31=>
R11 h31))
(bsel p9
(bF x10 2
(aB (add (add a3 (toNat n4*18)) (toNat x10*9)) h22 λb32=>
bsel b32
(bF x10 2
(aI .i64 (add (add (add a3 (toNat n4*18)) (toNat x10*9)) 2) h22 λn33=>
bsel (n33==p4)
(bF x10 2
(aC (add (add a3 (toNat n4*18)) (toNat x10*9)) (.bool false) h22 λh34=>
aC (add (add (add a3 (toNat n4*18)) (toNat x10*9)) 1) (.int .i64 (0:Int)) h34 λh35=>
aC (add (add (add a3 (toNat n4*18)) (toNat x10*9)) 2) (.int .i64 (0:Int)) h35 λh36=>
aC (add (add (add a3 (toNat n4*18)) (toNat x10*9)) 3) (.int .i64 (0:Int)) h36 λh37=>
aC (add (add (add a3 (toNat n4*18)) (toNat x10*9)) 4) (.bool false) h37 λh38=>
aC (add (add (add a3 (toNat n4*18)) (toNat x10*9)) 5) (.bool false) h38 λh39=>
aC (add (add (add a3 (toNat n4*18)) (toNat x10*9)) 6) (.bool false) h39 λh40=>
aC (add (add (add a3 (toNat n4*18)) (toNat x10*9)) 7) (.bool false) h40 λh41=>
aC (add (add (add a3 (toNat n4*18)) (toNat x10*9)) 8) (.bool false) h41 λh42=>
R11 h42))
(R11 h22)))
(R11 h22)))
(R11 h22))) h9)))
(bF p1 2
(aC (add (add a3 (toNat n4*18)) (toNat p1*9)) (.bool p2) h9 λh44=>
aC (add (add (add a3 (toNat n4*18)) (toNat p1*9)) 1) (.int .i64 p3) h44 λh45=>
aC (add (add (add a3 (toNat n4*18)) (toNat p1*9)) 2) (.int .i64 p4) h45 λh46=>
aC (add (add (add a3 (toNat n4*18)) (toNat p1*9)) 3) (.int .i64 p5) h46 λh47=>
aC (add (add (add a3 (toNat n4*18)) (toNat p1*9)) 4) (.bool p6) h47 λh48=>
aC (add (add (add a3 (toNat n4*18)) (toNat p1*9)) 5) (.bool p7) h48 λh49=>
aC (add (add (add a3 (toNat n4*18)) (toNat p1*9)) 6) (.bool p8) h49 λh50=>
aC (add (add (add a3 (toNat n4*18)) (toNat p1*9)) 7) (.bool p9) h50 λh51=>
aC (add (add (add a3 (toNat n4*18)) (toNat p1*9)) 8) (.bool p10) h51 λh52=>
Q (0:Int) h52)))) h2)/\
(bsel (decide (p1<(0:Int)))
(Q (1:Int) h)
(bsel (decide (p1>=(2:Int)))
(Q (1:Int) h)
(bsel (decide (p3<(0:Int)))
(Q (1:Int) h)
(bsel (decide (p3>=(4096:Int)))
(Q (1:Int) h)
(bsel (decide (p4<(0:Int)))
(Q (1:Int) h)
(bsel (decide (p5<(0:Int)))
(Q (1:Int) h)
(bsel (!p2)
(Q (1:Int) h)
(R1 h)))))))))
def qec_A:qec_T:=qec_G qde_A qdf_A
def qec_W (f:qec_T):aW [.c .p,.c (.i .i64),.agg [.b,(.i .i64),(.i .i64),(.i .i64),.b,.b,.b,.b,.b]] EnR:=λp0 p1 p2 p3 p4 p5 p6 p7 p8 p9 p10 K _Kp=>f p0 p1 p2 p3 p4 p5 p6 p7 p8 p9 p10 (λr0=>K (.int .i64 r0))
abbrev qed_T:=Option Addr->Int->Int->Bool->Bool->Bool->(Int->AH->Prop)->(Value->AP)->AP
def qed_G (f_qcx:qcx_T) (f_qcy:qcy_T) (f_qcv:qcv_T) (f_qdd:qdd_T) (f_qdi:qdi_T) (f_qdj:qdj_T) (f_qdu:qdu_T) (f_qeb:qeb_T) (f_qec:qec_T) (p0:Option Addr) (p1:Int) (p2:Int) (p3:Bool) (p4:Bool) (p5:Bool) (Q:Int->AH->Prop) (Kp:Value->AP) (h:AH):Prop:=
(f_qcx p0 (λn1 h2=>
aF p0 λa3=>
aP a3 h2 λpt4=>
f_qcy pt4 p1 (λn5 b6 h7=>
∃ R8:AH->Prop,(∀ h12,R8 h12->
aF p0 λa13=>
aP a13 h12 λpt14=>
f_qdd pt14 p1 (λn15 h16=>
∃ R17:AH->Prop,(∀ h35,R17 h35->
aF p0 λa36=>
aP a36 h35 λpt37=>
f_qdu pt37 p1 (wrap .i64 (wrap .u64 (Int.tdiv p2 (4096:Int)))) p3 p4 p5 (λ_ n39 n40 h41=>
∃ R42:Int->Int->AH->Prop,(∀ c43:Int,∀ c44:Int,∀ h45,R42 c43 c44 h45->
f_qcv n40 c43 c44 (λh46=>
aF p0 λa49=>
aP a49 h46 λpt50=>
aF pt50 λa51=>
aP a51 h46 λpt52=>
f_qeb pt52 n5 p2 p3 p4 p5 (λn53 b54 b55 b56 _ _ b59 n60 n61 n62 h63=>
f_qcv n62 n60 n61 (λh64=>
∃ R67:AH->Prop,(∀ h74,R67 h74->
Q n53 h74)/\
(bsel (decide (n1>=(0:Int)))
(aF p0 λa68=>
aP a68 h64 λpt69=>
aF pt69 λa70=>
aP (add a70 3) h64 λpt71=>
f_qec pt71 n1 true n15 (wrap .i64 (wrap .u64 (Int.tdiv p2 (4096:Int)))) n53 b54 b55 b56 false b59 (λ_ h73=>
R67 h73) h64)
(R67 h64))) (λv65 h66=>Kp v65 h66) h63) h46) (λv47 h48=>Kp v47 h48) h45)/\
(bsel (n40==(9:Int))
(R42 p2 n39 h41)
(R42 (0:Int) (0:Int) h41))) h35)/\
(aF p0 λa18=>
aP a18 h16 λpt19=>
aF pt19 λa20=>
aP (add a20 3) h16 λpt21=>
f_qdi pt21 n15 (wrap .i64 (wrap .u64 (Int.tdiv p2 (4096:Int)))) (λ_ _ _ n25 b26 b27 b28 _ b30 b31 h32=>
bsel b31
(f_qdj b26 b27 b28 p3 p4 p5 (λb33 h34=>
bsel b33
(bsel b30
(Q n25 h34)
(bsel (!p3)
(Q n25 h34)
(R17 h34)))
(R17 h34)) h32)
(R17 h32)) h16)) h12)/\
(bsel (!b6)
(f_qcv (5:Int) (0:Int) (0:Int) (λh9=>
R8 h9) (λv10 h11=>Kp v10 h11) h7)
(R8 h7))) h2) h)
def qed_A:qed_T:=qed_G qcx_A qcy_A qcv_A qdd_A qdi_A qdj_A qdu_A qeb_A qec_A
def qed_W (f:qed_T):aW [.c .p,.c (.i .i64),.c (.i .u64),.agg [.b,.b,.b]] EnR:=λp0 p1 p2 p3 p4 p5 K Kp=>f p0 p1 p2 p3 p4 p5 (λr0=>K (.int .i64 r0)) Kp
abbrev qee_Tn:=Option Addr->Option Addr->Option Addr->AP->AP
def qee_nA (_p0:Option Addr) (_p1:Option Addr) (_p2:Option Addr) (K:AP) (h:AH):Prop:=
(K h)
abbrev qee_Tp:=Option Addr->Option Addr->Option Addr->Int->Int->Int->AP->AP
def qee_pA (p0:Option Addr) (p1:Option Addr) (p2:Option Addr) (y0:Int) (y1:Int) (y2:Int) (K:AP) (h:AH):Prop:=
(aF p0 λa1=>
aC a1 (.int .u64 (0:Int)) h λh2=>
aF p1 λa3=>
aC a3 (.int .u64 y0) h2 λh4=>
aC (add a3 1) (.int .i64 y1) h4 λh5=>
aF p2 λa6=>
aC a6 (.int .i64 y2) h5 λh7=>
K h7)
abbrev qee_Tv:=Option Addr->Option Addr->Option Addr->Value->AP->AP
def qee_vA (f_p:qee_Tp):qee_Tv:=λp0 p1 p2 v K h=>dpS [.c .p,.c .p,.c .p] 226 [(.i .u64),(.i .i64),(.i .i64)] f_p [(.pointer p0),(.pointer p1),(.pointer p2)] v K h
abbrev qef_T:=Option Addr->Int->Int->Int->Bool->Int->(Int->Int->Int->Int->AH->Prop)->AP
def qef_G (f_qcv:qcv_T) (f_qed:qed_T) (f_qbp:qbp_T) (f_qdn:qdn_T) (f_qee_n:qee_Tn) (f_qee_v:qee_Tv) (p0:Option Addr) (p1:Int) (p2:Int) (p3:Int) (p4:Bool) (p5:Int) (Q:Int->Int->Int->Int->AH->Prop) (h:AH):Prop:=
(aT h (.cells #[(.int .u64 (0:Int))] 22) λb1 h2=>
aT h2 (.cells #[(.int .u64 (0:Int)),(.int .i64 (0:Int))] 39) λb3 h4=>
aT h4 (.cells #[(.int .i64 (0:Int))] 26) λb5 h6=>
∃ R7:AH->Prop,(∀ h19,R7 h19->
∃ R20:AH->Prop,(∀ h37,R20 h37->
f_qed p0 p1 p2 p4 true false (λn38 h39=>
bsel p4
(aF p0 λa47=>
aP a47 h39 λpt48=>
aF pt48 λa49=>
aP a49 h39 λpt50=>
f_qbp pt50 (wrap .u64 ((wrap .u64 ((wrap .u64 n38)*(4096:Int)))+(Int.tmod p2 (4096:Int)))) p3 p5 (λn51 h52=>
f_qcv n51 (0:Int) (0:Int) (λh53=>
aC (mk b1 0 none) (.int .u64 (0:Int)) h53 λh61=>
aC (mk b3 0 none) (.int .u64 (0:Int)) h61 λh62=>
aC (add (mk b3 0 none) 1) (.int .i64 (0:Int)) h62 λh63=>
aC (mk b5 0 none) (.int .i64 (0:Int)) h63 λh64=>
f_qee_n (some (mk b1 0 none)) (some (mk b3 0 none)) (some (mk b5 0 none)) (λh65=>
aI .u64 (mk b1 0 none) h65 λn66=>
aI .u64 (mk b3 0 none) h65 λn67=>
aI .i64 (add (mk b3 0 none) 1) h65 λn68=>
aI .i64 (mk b5 0 none) h65 λn69=>
Q n66 n67 n68 n69 h65) h64) (λv54 h55=>f_qee_v (some (mk b1 0 none)) (some (mk b3 0 none)) (some (mk b5 0 none)) v54 (λh56=>
aI .u64 (mk b1 0 none) h56 λn57=>
aI .u64 (mk b3 0 none) h56 λn58=>
aI .i64 (add (mk b3 0 none) 1) h56 λn59=>
aI .i64 (mk b5 0 none) h56 λn60=>
Q n57 n58 n59 n60 h56) h55) h52) h39)
(aF p0 λa70=>
aP a70 h39 λpt71=>
aF pt71 λa72=>
aP a72 h39 λpt73=>
f_qdn pt73 (wrap .u64 ((wrap .u64 ((wrap .u64 n38)*(4096:Int)))+(Int.tmod p2 (4096:Int)))) p3 (λn74 n75 h76=>
aC (mk b1 0 none) (.int .u64 n74) h76 λh77=>
aC (mk b5 0 none) (.int .i64 n75) h77 λh78=>
aI .u64 (mk b1 0 none) h78 λn79=>
aI .i64 (mk b5 0 none) h78 λn80=>
aC (mk b1 0 none) (.int .u64 n79) h78 λh81=>
(aI .i64 (mk b5 0 none) h81 λn82=>
((.int .i64 n82):Value)=(.int .i64 n80))/\
(aC (mk b3 0 none) (.int .u64 (0:Int)) h81 λh83=>
aC (add (mk b3 0 none) 1) (.int .i64 (0:Int)) h83 λh84=>
(aI .i64 (mk b5 0 none) h84 λn85=>
((.int .i64 n85):Value)=(.int .i64 n80))/\
(aC (mk b5 0 none) (.int .i64 n80) h84 λh86=>
f_qee_n (some (mk b1 0 none)) (some (mk b3 0 none)) (some (mk b5 0 none)) (λh87=>
aI .u64 (mk b1 0 none) h87 λn88=>
aI .u64 (mk b3 0 none) h87 λn89=>
aI .i64 (add (mk b3 0 none) 1) h87 λn90=>
aI .i64 (mk b5 0 none) h87 λn91=>
Q n88 n89 n90 n91 h87) h86))) h39)) (λv40 h41=>f_qee_v (some (mk b1 0 none)) (some (mk b3 0 none)) (some (mk b5 0 none)) v40 (λh42=>
aI .u64 (mk b1 0 none) h42 λn43=>
aI .u64 (mk b3 0 none) h42 λn44=>
aI .i64 (add (mk b3 0 none) 1) h42 λn45=>
aI .i64 (mk b5 0 none) h42 λn46=>
Q n43 n44 n45 n46 h42) h41) h37)/\
(bsel ((wrap .u64 p3)==0) False
(bsel ((Int.tmod p2 (wrap .u64 p3)) != (0:Int))
(f_qcv (1:Int) (0:Int) (0:Int) (λh21=>
R20 h21) (λv22 h23=>f_qee_v (some (mk b1 0 none)) (some (mk b3 0 none)) (some (mk b5 0 none)) v22 (λh24=>
aI .u64 (mk b1 0 none) h24 λn25=>
aI .u64 (mk b3 0 none) h24 λn26=>
aI .i64 (add (mk b3 0 none) 1) h24 λn27=>
aI .i64 (mk b5 0 none) h24 λn28=>
Q n25 n26 n27 n28 h24) h23) h19)
(bsel (decide (p2>=(140737488355328:Int)))
(f_qcv (1:Int) (0:Int) (0:Int) (λh29=>
R20 h29) (λv30 h31=>f_qee_v (some (mk b1 0 none)) (some (mk b3 0 none)) (some (mk b5 0 none)) v30 (λh32=>
aI .u64 (mk b1 0 none) h32 λn33=>
aI .u64 (mk b3 0 none) h32 λn34=>
aI .i64 (add (mk b3 0 none) 1) h32 λn35=>
aI .i64 (mk b5 0 none) h32 λn36=>
Q n33 n34 n35 n36 h32) h31) h19)
(R20 h19)))))/\
(∃ R8:Bool->AH->Prop,(∀ b9:Bool,∀ h10,R8 b9 h10->
bsel b9
(R7 h10)
(f_qcv (1:Int) (0:Int) (0:Int) (λh11=>
R7 h11) (λv12 h13=>f_qee_v (some (mk b1 0 none)) (some (mk b3 0 none)) (some (mk b5 0 none)) v12 (λh14=>
aI .u64 (mk b1 0 none) h14 λn15=>
aI .u64 (mk b3 0 none) h14 λn16=>
aI .i64 (add (mk b3 0 none) 1) h14 λn17=>
aI .i64 (mk b5 0 none) h14 λn18=>
Q n15 n16 n17 n18 h14) h13) h10))/\
(bsel (p3==(1:Int))
(R8 (p3==(1:Int)) h6)
(bsel (p3==(2:Int))
(R8 (p3==(2:Int)) h6)
(bsel (p3==(4:Int))
(R8 (p3==(4:Int)) h6)
(R8 (p3==(8:Int)) h6))))))
def qef_A:qef_T:=qef_G qcv_A qed_A qbp_A qdn_A qee_nA (qee_vA qee_pA)
def qef_W (f:qef_T):aW [.c .p,.c (.i .i64),.c (.i .u64),.c (.i .i64),.c .b,.c (.i .u64)] EnR:=λp0 p1 p2 p3 p4 p5 K _Kp=>f p0 p1 p2 p3 p4 p5 (λr0 r1 r2 r3=>K (.tuple #[(.int .u64 r0),(.agg #[(.int .u64 r1),(.int .i64 r2)]),(.int .i64 r3)]))
abbrev qeg_T:=Int->Int->Int->Int->Int->Int->Bool->Int->Int->Int->Int->Int->Int->Int->Int->(Int->Int->Int->Int->Int->Int->Bool->Int->Int->Int->Int->Int->Int->Int->AH->Prop)->AP
def qeg_A (p0:Int) (p1:Int) (p2:Int) (p3:Int) (p4:Int) (p5:Int) (p6:Bool) (p7:Int) (p8:Int) (p9:Int) (p10:Int) (p11:Int) (p12:Int) (p13:Int) (p14:Int) (Q:Int->Int->Int->Int->Int->Int->Bool->Int->Int->Int->Int->Int->Int->Int->AH->Prop) (h:AH):Prop:=
(aT h (.cells #[(.int .u64 p13),(.int .i64 p14)] 39) λb1 h2=>
bsel (p5==(0:Int))
(Q p0 p1 p2 p3 p4 p5 p6 p7 p8 p9 p10 p11 p12 (5:Int) h2)
(bsel p6
(Q p0 p1 p2 p3 p4 p5 p6 p7 p8 p9 p10 p11 p12 (11:Int) h2)
(aI .u64 (mk b1 0 none) h2 λn3=>
aI .i64 (add (mk b1 0 none) 1) h2 λn4=>
(aI .u64 (mk b1 0 none) h2 λn5=>
aI .i64 (add (mk b1 0 none) 1) h2 λn6=>
((.agg #[(.int .u64 n5),(.int .i64 n6)]):Value)=(.agg #[(.int .u64 n3),(.int .i64 n4)]))/\
(aI .u64 (mk b1 0 none) h2 λn7=>
aI .i64 (add (mk b1 0 none) 1) h2 λn8=>
Q n7 ((wrap .u64 n8):Int) (0:Int) (0:Int) p4 p5 (true:Bool) n3 n4 p0 p1 p2 p3 (0:Int) h2))))
def qeg_W (f:qeg_T):aW [.agg [(.i .u64),(.i .u64),(.i .u64),(.i .u64),(.i .i64),(.i .u64),.b,(.i .u64),(.i .i64),(.i .u64),(.i .u64),(.i .u64),(.i .u64)],.agg [(.i .u64),(.i .i64)]] EnR:=λp0 p1 p2 p3 p4 p5 p6 p7 p8 p9 p10 p11 p12 p13 p14 K _Kp=>f p0 p1 p2 p3 p4 p5 p6 p7 p8 p9 p10 p11 p12 p13 p14 (λr0 r1 r2 r3 r4 r5 r6 r7 r8 r9 r10 r11 r12 r13=>K (.tuple #[(.agg #[(.int .u64 r0),(.int .u64 r1),(.int .u64 r2),(.int .u64 r3),(.int .i64 r4),(.int .u64 r5),(.bool r6),(.int .u64 r7),(.int .i64 r8),(.int .u64 r9),(.int .u64 r10),(.int .u64 r11),(.int .u64 r12)]),(.int .i64 r13)]))
abbrev qeh_T:=Option Addr->Int->Int->Int->Int->Bool->Bool->Bool->Int->Int->Int->Int->Int->Int->Int->(Int->Int->Int->Int->Int->Bool->AH->Prop)->AP
def qeh_G (f_qef:qef_T) (f_qeg:qeg_T) (p0:Option Addr) (p1:Int) (p2:Int) (_p3:Int) (_p4:Int) (_p5:Bool) (_p6:Bool) (_p7:Bool) (p8:Int) (p9:Int) (p10:Int) (_p11:Int) (_p12:Int) (_p13:Int) (_p14:Int) (Q:Int->Int->Int->Int->Int->Bool->AH->Prop) (h:AH):Prop:=
(aF p0 λa1=>
aM (add a1 3) h λmp2=>
qP h mp2 .i64 p1 λo3=>
∃ pt4:Option Addr,((o3.getD (.pointer none)):Value)=(.pointer pt4)/\
(aF p0 λa5=>
aF pt4 λa6=>
aP a5 h λpt7=>
aI .i64 (add a6 1) h λn8=>
f_qef pt7 n8 p8 p9 (p2==(5:Int)) p10 (λn9 n10 n11 n12 h13=>
∃ R14:Bool->AH->Prop,(∀ c58:Bool,∀ h59,R14 c58 h59->
Q p1 n9 n12 n10 n11 c58 h59)/\
(bsel (n12==(9:Int))
(aF pt4 λa15=>
aI .u64 (add a15 3) h13 λn16=>
aI .u64 (add (add a15 3) 1) h13 λn17=>
aI .u64 (add (add a15 3) 2) h13 λn18=>
aI .u64 (add (add a15 3) 3) h13 λn19=>
aI .i64 (add (add a15 3) 4) h13 λn20=>
aI .u64 (add (add a15 3) 5) h13 λn21=>
aB (add (add a15 3) 6) h13 λb22=>
aI .u64 (add (add a15 3) 7) h13 λn23=>
aI .i64 (add (add a15 3) 8) h13 λn24=>
aI .u64 (add (add a15 3) 9) h13 λn25=>
aI .u64 (add (add a15 3) 10) h13 λn26=>
aI .u64 (add (add a15 3) 11) h13 λn27=>
aI .u64 (add (add a15 3) 12) h13 λn28=>
f_qeg n16 n17 n18 n19 n20 n21 b22 n23 n24 n25 n26 n27 n28 n10 n11 (λn29 n30 n31 n32 n33 n34 b35 n36 n37 n38 n39 n40 n41 n42 h43=>
aF pt4 λa44=>
aC (add a44 3) (.int .u64 n29) h43 λh45=>
aC (add (add a44 3) 1) (.int .u64 n30) h45 λh46=>
aC (add (add a44 3) 2) (.int .u64 n31) h46 λh47=>
aC (add (add a44 3) 3) (.int .u64 n32) h47 λh48=>
aC (add (add a44 3) 4) (.int .i64 n33) h48 λh49=>
aC (add (add a44 3) 5) (.int .u64 n34) h49 λh50=>
aC (add (add a44 3) 6) (.bool b35) h50 λh51=>
aC (add (add a44 3) 7) (.int .u64 n36) h51 λh52=>
aC (add (add a44 3) 8) (.int .i64 n37) h52 λh53=>
aC (add (add a44 3) 9) (.int .u64 n38) h53 λh54=>
aC (add (add a44 3) 10) (.int .u64 n39) h54 λh55=>
aC (add (add a44 3) 11) (.int .u64 n40) h55 λh56=>
aC (add (add a44 3) 12) (.int .u64 n41) h56 λh57=>
R14 (n42==(0:Int)) h57) h13)
(R14 false h13))) h))
def qeh_A:qeh_T:=qeh_G qef_A qeg_A
def qeh_W (f:qeh_T):aW [.c .p,.c (.i .i64),.agg [(.i .i64),(.i .i64),(.i .i64),.b,.b,.b,(.i .u64),(.i .i64),(.i .u64),(.i .i64),(.i .i64),(.i .i64),(.i .i64)]] EnR:=λp0 p1 p2 p3 p4 p5 p6 p7 p8 p9 p10 p11 p12 p13 p14 K _Kp=>f p0 p1 p2 p3 p4 p5 p6 p7 p8 p9 p10 p11 p12 p13 p14 (λr0 r1 r2 r3 r4 r5=>K (.agg #[(.int .i64 r0),(.int .u64 r1),(.int .i64 r2),(.int .u64 r3),(.int .i64 r4),(.bool r5)]))
abbrev qei_T:=Int->Int->(Bool->AH->Prop)->AP
def qei_A (p0:Int) (p1:Int) (Q:Bool->AH->Prop) (h:AH):Prop:=
(bsel (decide (p0>=(0:Int)))
(bsel (decide (p1 > p0))
(bsel (decide (p1<=(34359738368:Int)))
(Q (decide ((wrap .i64 (p1-p0))<=(65536:Int))) h)
(Q false h))
(Q false h))
(Q false h))
def qei_W (f:qei_T):aW [.agg [(.i .i64),(.i .i64)]] EnR:=λp0 p1 K _Kp=>f p0 p1 (λr0=>K (.bool r0))
abbrev qej_T:=Int->Int->Bool->Bool->Bool->Int->Int->Int->Bool->Bool->Bool->Int->(Bool->AH->Prop)->AP
def qej_A (_p0:Int) (p1:Int) (p2:Bool) (p3:Bool) (p4:Bool) (p5:Int) (p6:Int) (_p7:Int) (p8:Bool) (p9:Bool) (p10:Bool) (p11:Int) (Q:Bool->AH->Prop) (h:AH):Prop:=
(bsel (p1==p6)
(bsel ((p2==p8)&&((p3==p9)&&((p4==p10)&&true)))
(Q (p5==p11) h)
(Q false h))
(Q false h))
def qej_W (f:qej_T):aW [.agg [(.i .i64),(.i .i64),.b,.b,.b,(.i .i64)],.agg [(.i .i64),(.i .i64),.b,.b,.b,(.i .i64)]] EnR:=λp0 p1 p2 p3 p4 p5 p6 p7 p8 p9 p10 p11 K _Kp=>f p0 p1 p2 p3 p4 p5 p6 p7 p8 p9 p10 p11 (λr0=>K (.bool r0))
abbrev qek_T:=Sl->(Bool->AH->Prop)->AP
def qek_G (f_qej:qej_T) (p0:Sl) (Q:Bool->AH->Prop) (h:AH):Prop:=
(bsel (decide ((Int.ofNat p0.len) > (64:Int)))
(Q false h)
(∃ I1:Int->Nat->AH->Prop,(∃ m2,I1 (0:Int) m2 h)/\∀ x5:Int,∀ m2 h4,I1 x5 m2 h4->
bsel (decide (x5<(Int.ofNat p0.len)))
(aF p0.a λa6=>
bF x5 p0.len
(aI .i64 (add a6 (toNat x5*6)) h4 λn7=>
aI .i64 (add (add a6 (toNat x5*6)) 1) h4 λn8=>
aB (add (add a6 (toNat x5*6)) 2) h4 λb9=>
aB (add (add a6 (toNat x5*6)) 3) h4 λb10=>
aB (add (add a6 (toNat x5*6)) 4) h4 λb11=>
aI .i64 (add (add a6 (toNat x5*6)) 5) h4 λn12=>
bsel (decide (n7<(0:Int)))
(Q false h4)
(bsel (decide (n8<=n7))
(Q false h4)
(bsel (decide (n8 > (34359738368:Int)))
(Q false h4)
(bsel (decide (x5 > (0:Int)))
(aF p0.a λa13=>
bF (wrap .i64 (x5-(1:Int))) p0.len
(aI .i64 (add (add a13 (toNat (wrap .i64 (x5-(1:Int)))*6)) 1) h4 λn14=>
bsel (decide (n14 > n7))
(Q false h4)
(aF p0.a λa15=>
bF (wrap .i64 (x5-(1:Int))) p0.len
(aI .i64 (add a15 (toNat (wrap .i64 (x5-(1:Int)))*6)) h4 λn16=>
aI .i64 (add (add a15 (toNat (wrap .i64 (x5-(1:Int)))*6)) 1) h4 λn17=>
aB (add (add a15 (toNat (wrap .i64 (x5-(1:Int)))*6)) 2) h4 λb18=>
aB (add (add a15 (toNat (wrap .i64 (x5-(1:Int)))*6)) 3) h4 λb19=>
aB (add (add a15 (toNat (wrap .i64 (x5-(1:Int)))*6)) 4) h4 λb20=>
aI .i64 (add (add a15 (toNat (wrap .i64 (x5-(1:Int)))*6)) 5) h4 λn21=>
f_qej n16 n17 b18 b19 b20 n21 n7 n8 b9 b10 b11 n12 (λb22 h23=>
bsel b22
(Q false h23)
(∃ m3,m3<m2/\I1 (wrap .i64 (x5+(1:Int))) m3 h23)) h4))))
(∃ m3,m3<m2/\I1 (wrap .i64 (x5+(1:Int))) m3 h4))))))
(Q true h4)))
def qek_A:qek_T:=qek_G qej_A
def qek_W (f:qek_T):aW [.c .s] EnR:=λp0 K _Kp=>f p0 (λr0=>K (.bool r0))
abbrev qel_T:=Sl->(Sl->AH->Prop)->AP
def qel_A (p0:Sl) (Q:Sl->AH->Prop) (h:AH):Prop:=
(bsel (Option.isNone p0.a)
(Q Sl.nil h)
(aT h (.cells #[] 237) λb1 h2=>
jZ 6 32 #[(.int .i64 (0:Int)),(.int .i64 (0:Int)),(.bool false),(.bool false),(.bool false),(.int .i64 (0:Int))] 237 (Sl.mk (some (mk b1 0 none)) 0 0) p0 h2 λs3 h4=>
Q s3 h4))
def qel_W (f:qel_T):aW [.c .s] EnR:=λp0 K _Kp=>f p0 (λr0=>K (.slice r0.a r0.len r0.cap))
abbrev qem_T:=Sl->Sl->(Bool->AH->Prop)->AP
def qem_A:qem_T:=ovA
def qem_W (f:qem_T):aW [.c .s,.c .s] EnR:=λp0 p1 K _Kp=>f p0 p1 (λr0=>K (.bool r0))
abbrev qen_T:=Sl->Int->(AH->Prop)->AP
def qen_A:qen_T:=λ_ _ _ _=>False
def qen_W (f:qen_T):aW [.c .s,.c (.i .i64)] EnR:=λp0 p1 K _Kp=>f p0 p1 (K (.tuple #[]))
abbrev qeo_T:=Sl->Int->Sl->(Sl->AH->Prop)->AP
def qeo_G (f_qem:qem_T) (f_qen:qen_T) (p0:Sl) (p1:Int) (p2:Sl) (Q:Sl->AH->Prop) (h:AH):Prop:=
(bF p1 (p0.len+1)
(bsel ((Int.ofNat p2.len)==(0:Int))
(Q p0 h)
(bsel (p1==(Int.ofNat p0.len))
(jZ 6 32 #[(.int .i64 (0:Int)),(.int .i64 (0:Int)),(.bool false),(.bool false),(.bool false),(.int .i64 (0:Int))] 237 p0 p2 h λs1 h2=>
Q s1 h2)
(bsel (decide ((wrap .i64 ((Int.ofNat p0.len)+(Int.ofNat p2.len))) > (Int.ofNat p0.cap)))
(bF p1 (p0.cap+1)
(apZ 6 32 #[(.int .i64 (0:Int)),(.int .i64 (0:Int)),(.bool false),(.bool false),(.bool false),(.int .i64 (0:Int))] 237 (Sl.mk (if p0.cap=0 then p0.a else Option.map (λx=>add x (0*6)) p0.a) (toNat p1) p0.cap) (wrap .i64 ((wrap .i64 ((Int.ofNat p0.len)+(Int.ofNat p2.len)))-p1)) h λs3 h4=>
bF p1 (s3.len+1)
(cpA 6 (Sl.mk (if s3.cap=(toNat p1) then s3.a else Option.map (λx=>add x ((toNat p1)*6)) s3.a) (s3.len-(toNat p1)) (s3.cap-(toNat p1))) p2 h4 λ_ h6=>
bF (wrap .i64 (p1+(Int.ofNat p2.len))) (s3.len+1)
(bF p1 (p0.len+1)
(cpA 6 (Sl.mk (if s3.cap=(toNat (wrap .i64 (p1+(Int.ofNat p2.len)))) then s3.a else Option.map (λx=>add x ((toNat (wrap .i64 (p1+(Int.ofNat p2.len))))*6)) s3.a) (s3.len-(toNat (wrap .i64 (p1+(Int.ofNat p2.len))))) (s3.cap-(toNat (wrap .i64 (p1+(Int.ofNat p2.len)))))) (Sl.mk (if p0.cap=(toNat p1) then p0.a else Option.map (λx=>add x ((toNat p1)*6)) p0.a) (p0.len-(toNat p1)) (p0.cap-(toNat p1))) h6 λ_ h8=>
Q s3 h8)))))
(bF (wrap .i64 ((Int.ofNat p0.len)+(Int.ofNat p2.len))) (p0.cap+1)
(bF (wrap .i64 (p1+(Int.ofNat p2.len))) ((toNat (wrap .i64 ((Int.ofNat p0.len)+(Int.ofNat p2.len))))+1)
(f_qem p2 (Sl.mk (if p0.cap=(toNat (wrap .i64 (p1+(Int.ofNat p2.len)))) then (if p0.cap=0 then p0.a else Option.map (λx=>add x (0*6)) p0.a) else Option.map (λx=>add x ((toNat (wrap .i64 (p1+(Int.ofNat p2.len))))*6)) (if p0.cap=0 then p0.a else Option.map (λx=>add x (0*6)) p0.a)) ((toNat (wrap .i64 ((Int.ofNat p0.len)+(Int.ofNat p2.len))))-(toNat (wrap .i64 (p1+(Int.ofNat p2.len))))) (p0.cap-(toNat (wrap .i64 (p1+(Int.ofNat p2.len)))))) (λb9 h10=>
bsel (!b9)
(bF (wrap .i64 (p1+(Int.ofNat p2.len))) ((toNat (wrap .i64 ((Int.ofNat p0.len)+(Int.ofNat p2.len))))+1)
(bF p1 ((toNat (wrap .i64 ((Int.ofNat p0.len)+(Int.ofNat p2.len))))+1)
(cpA 6 (Sl.mk (if p0.cap=(toNat (wrap .i64 (p1+(Int.ofNat p2.len)))) then (if p0.cap=0 then p0.a else Option.map (λx=>add x (0*6)) p0.a) else Option.map (λx=>add x ((toNat (wrap .i64 (p1+(Int.ofNat p2.len))))*6)) (if p0.cap=0 then p0.a else Option.map (λx=>add x (0*6)) p0.a)) ((toNat (wrap .i64 ((Int.ofNat p0.len)+(Int.ofNat p2.len))))-(toNat (wrap .i64 (p1+(Int.ofNat p2.len))))) (p0.cap-(toNat (wrap .i64 (p1+(Int.ofNat p2.len)))))) (Sl.mk (if p0.cap=(toNat p1) then (if p0.cap=0 then p0.a else Option.map (λx=>add x (0*6)) p0.a) else Option.map (λx=>add x ((toNat p1)*6)) (if p0.cap=0 then p0.a else Option.map (λx=>add x (0*6)) p0.a)) ((toNat (wrap .i64 ((Int.ofNat p0.len)+(Int.ofNat p2.len))))-(toNat p1)) (p0.cap-(toNat p1))) h10 λ_ h12=>
bF p1 ((toNat (wrap .i64 ((Int.ofNat p0.len)+(Int.ofNat p2.len))))+1)
(cpA 6 (Sl.mk (if p0.cap=(toNat p1) then (if p0.cap=0 then p0.a else Option.map (λx=>add x (0*6)) p0.a) else Option.map (λx=>add x ((toNat p1)*6)) (if p0.cap=0 then p0.a else Option.map (λx=>add x (0*6)) p0.a)) ((toNat (wrap .i64 ((Int.ofNat p0.len)+(Int.ofNat p2.len))))-(toNat p1)) (p0.cap-(toNat p1))) p2 h12 λ_ h14=>
Q (Sl.mk (if p0.cap=0 then p0.a else Option.map (λx=>add x (0*6)) p0.a) (toNat (wrap .i64 ((Int.ofNat p0.len)+(Int.ofNat p2.len)))) p0.cap) h14))))
(bF (Int.ofNat p0.len) ((toNat (wrap .i64 ((Int.ofNat p0.len)+(Int.ofNat p2.len))))+1)
(cpA 6 (Sl.mk (if p0.cap=(toNat (Int.ofNat p0.len)) then (if p0.cap=0 then p0.a else Option.map (λx=>add x (0*6)) p0.a) else Option.map (λx=>add x ((toNat (Int.ofNat p0.len))*6)) (if p0.cap=0 then p0.a else Option.map (λx=>add x (0*6)) p0.a)) ((toNat (wrap .i64 ((Int.ofNat p0.len)+(Int.ofNat p2.len))))-(toNat (Int.ofNat p0.len))) (p0.cap-(toNat (Int.ofNat p0.len)))) p2 h10 λ_ h16=>
bF p1 ((toNat (wrap .i64 ((Int.ofNat p0.len)+(Int.ofNat p2.len))))+1)
(f_qen (Sl.mk (if p0.cap=(toNat p1) then (if p0.cap=0 then p0.a else Option.map (λx=>add x (0*6)) p0.a) else Option.map (λx=>add x ((toNat p1)*6)) (if p0.cap=0 then p0.a else Option.map (λx=>add x (0*6)) p0.a)) ((toNat (wrap .i64 ((Int.ofNat p0.len)+(Int.ofNat p2.len))))-(toNat p1)) (p0.cap-(toNat p1))) (Int.ofNat p2.len) (λh17=>
Q (Sl.mk (if p0.cap=0 then p0.a else Option.map (λx=>add x (0*6)) p0.a) (toNat (wrap .i64 ((Int.ofNat p0.len)+(Int.ofNat p2.len)))) p0.cap) h17) h16)))) h)))))))
def qeo_A:qeo_T:=qeo_G qem_A qen_A
def qeo_W (f:qeo_T):aW [.c .s,.c (.i .i64),.c .s] EnR:=λp0 p1 p2 K _Kp=>f p0 p1 p2 (λr0=>K (.slice r0.a r0.len r0.cap))
abbrev qep_T:=Sl->(Sl->AH->Prop)->AP
def qep_G (f_qej:qej_T) (p0:Sl) (Q:Sl->AH->Prop) (h:AH):Prop:=
(∃ I1:Sl->Int->Nat->AH->Prop,(∃ m2,I1 Sl.nil (0:Int) m2 h)/\∀ s5:Sl,∀ x6:Int,∀ m2 h4,I1 s5 x6 m2 h4->
bsel (decide (x6<(Int.ofNat p0.len)))
(∃ R7:Sl->AH->Prop,(∀ s34:Sl,∀ h35,R7 s34 h35->
∃ m3,m3<m2/\I1 s34 (wrap .i64 (x6+(1:Int))) m3 h35)/\
(aF p0.a λa8=>
bF x6 p0.len
(aI .i64 (add a8 (toNat x6*6)) h4 λn9=>
aI .i64 (add (add a8 (toNat x6*6)) 1) h4 λn10=>
aB (add (add a8 (toNat x6*6)) 2) h4 λb11=>
aB (add (add a8 (toNat x6*6)) 3) h4 λb12=>
aB (add (add a8 (toNat x6*6)) 4) h4 λb13=>
aI .i64 (add (add a8 (toNat x6*6)) 5) h4 λn14=>
bsel (decide ((Int.ofNat s5.len) > (0:Int)))
(aF s5.a λa15=>
bF (wrap .i64 ((Int.ofNat s5.len)-(1:Int))) s5.len
(aI .i64 (add a15 (toNat (wrap .i64 ((Int.ofNat s5.len)-(1:Int)))*6)) h4 λn16=>
aI .i64 (add (add a15 (toNat (wrap .i64 ((Int.ofNat s5.len)-(1:Int)))*6)) 1) h4 λn17=>
aB (add (add a15 (toNat (wrap .i64 ((Int.ofNat s5.len)-(1:Int)))*6)) 2) h4 λb18=>
aB (add (add a15 (toNat (wrap .i64 ((Int.ofNat s5.len)-(1:Int)))*6)) 3) h4 λb19=>
aB (add (add a15 (toNat (wrap .i64 ((Int.ofNat s5.len)-(1:Int)))*6)) 4) h4 λb20=>
aI .i64 (add (add a15 (toNat (wrap .i64 ((Int.ofNat s5.len)-(1:Int)))*6)) 5) h4 λn21=>
f_qej n16 n17 b18 b19 b20 n21 n9 n10 b11 b12 b13 n14 (λb22 h23=>
bsel b22
(aF s5.a λa24=>
bF (wrap .i64 ((Int.ofNat s5.len)-(1:Int))) s5.len
(aC (add (add a24 (toNat (wrap .i64 ((Int.ofNat s5.len)-(1:Int)))*6)) 1) (.int .i64 n10) h23 λh25=>
R7 s5 h25))
(aT h23 (.cells #[(.int .i64 n9),(.int .i64 n10),(.bool b11),(.bool b12),(.bool b13),(.int .i64 n14)] 237) λb26 h27=>
jZ 6 32 #[(.int .i64 (0:Int)),(.int .i64 (0:Int)),(.bool false),(.bool false),(.bool false),(.int .i64 (0:Int))] 237 s5 (Sl.mk (some (mk b26 0 none)) 1 1) h27 λs28 h29=>
R7 s28 h29)) h4))
(aT h4 (.cells #[(.int .i64 n9),(.int .i64 n10),(.bool b11),(.bool b12),(.bool b13),(.int .i64 n14)] 237) λb30 h31=>
jZ 6 32 #[(.int .i64 (0:Int)),(.int .i64 (0:Int)),(.bool false),(.bool false),(.bool false),(.int .i64 (0:Int))] 237 s5 (Sl.mk (some (mk b30 0 none)) 1 1) h31 λs32 h33=>
R7 s32 h33))))
(Q s5 h4))
def qep_A:qep_T:=qep_G qej_A
def qep_W (f:qep_T):aW [.c .s] EnR:=λp0 K _Kp=>f p0 (λr0=>K (.slice r0.a r0.len r0.cap))
abbrev qeq_T:=Sl->(Sl->Int->AH->Prop)->AP
def qeq_A (p0:Sl) (Q:Sl->Int->AH->Prop) (h:AH):Prop:=
(bsel (decide ((Int.ofNat p0.len) > (64:Int)))
(Q Sl.nil (4:Int) h)
(Q p0 (0:Int) h))
def qeq_W (f:qeq_T):aW [.c .s] EnR:=λp0 K _Kp=>f p0 (λr0 r1=>K (.tuple #[(.slice r0.a r0.len r0.cap),(.int .i64 r1)]))
abbrev qer_T:=Sl->Int->Int->Bool->Bool->Bool->Int->(Sl->Int->AH->Prop)->AP
def qer_G (f_qei:qei_T) (f_qek:qek_T) (f_qel:qel_T) (f_qeo:qeo_T) (f_qep:qep_T) (f_qeq:qeq_T) (p0:Sl) (p1:Int) (p2:Int) (p3:Bool) (p4:Bool) (p5:Bool) (p6:Int) (Q:Sl->Int->AH->Prop) (h:AH):Prop:=
(f_qei p1 p2 (λb1 h2=>
bsel (!b1)
(Q Sl.nil (1:Int) h2)
(f_qek p0 (λb3 h4=>
bsel (!b3)
(Q Sl.nil (3:Int) h4)
(∃ I5:Int->Int->Nat->AH->Prop,(∃ m6,I5 (0:Int) (0:Int) m6 h4)/\∀ x9:Int,∀ x10:Int,∀ m6 h8,I5 x9 x10 m6 h8->
bsel (decide (x10<(Int.ofNat p0.len)))
(∃ R11:Int->AH->Prop,(∀ x19:Int,∀ h20,R11 x19 h20->
∃ m7,m7<m6/\I5 x19 (wrap .i64 (x10+(1:Int))) m7 h20)/\
(aF p0.a λa12=>
bF x10 p0.len
(aI .i64 (add a12 (toNat x10*6)) h8 λn13=>
aI .i64 (add (add a12 (toNat x10*6)) 1) h8 λn14=>
aB (add (add a12 (toNat x10*6)) 2) h8 λ_=>
aB (add (add a12 (toNat x10*6)) 3) h8 λ_=>
aB (add (add a12 (toNat x10*6)) 4) h8 λ_=>
aI .i64 (add (add a12 (toNat x10*6)) 5) h8 λ_=>
bsel (decide (n14<=p1))
(R11 (wrap .i64 (x10+(1:Int))) h8)
(bsel (decide (n13<p2))
(Q Sl.nil (6:Int) h8)
(R11 x9 h8)))))
((f_qel p0 (λs21 h22=>
aT h22 (.cells #[(.int .i64 p1),(.int .i64 p2),(.bool p3),(.bool p4),(.bool p5),(.int .i64 p6)] 237) λb23 h24=>
f_qeo s21 x9 (Sl.mk (some (mk b23 0 none)) 1 1) (λs25 h26=>
f_qep s25 (λs27 h28=>
f_qeq s27 (λs29 n30 h31=>
Q s29 n30 h31) h28) h26) h24) h8)/\
(aT h8 (.cells #[(.int .i64 p1),(.int .i64 p2),(.bool p3),(.bool p4),(.bool p5),(.int .i64 p6)] 237) λb32 h33=>
f_qel p0 (λs34 h35=>
f_qeo s34 x9 (Sl.mk (some (mk b32 0 none)) 1 1) (λs36 h37=>
f_qep s36 (λs38 h39=>
f_qeq s38 (λs40 n41 h42=>
Q s40 n41 h42) h39) h37) h35) h33)))) h2)) h)
def qer_A:qer_T:=qer_G qei_A qek_A qel_A qeo_A qep_A qeq_A
def qer_W (f:qer_T):aW [.c .s,.agg [(.i .i64),(.i .i64),.b,.b,.b,(.i .i64)]] EnR:=λp0 p1 p2 p3 p4 p5 p6 K _Kp=>f p0 p1 p2 p3 p4 p5 p6 (λr0 r1=>K (.tuple #[(.slice r0.a r0.len r0.cap),(.int .i64 r1)]))
abbrev qes_T:=Option Addr->Int->Int->Int->Bool->Bool->Bool->(Int->AH->Prop)->AP
def qes_G (f_qer:qer_T) (p0:Option Addr) (p1:Int) (p2:Int) (p3:Int) (p4:Bool) (p5:Bool) (p6:Bool) (Q:Int->AH->Prop) (h:AH):Prop:=
(aF p0 λa1=>
aM (add a1 6) h λmp2=>
qP h mp2 .i64 p1 λo3=>
∃ pt4:Option Addr,((o3.getD (.pointer none)):Value)=(.pointer pt4)/\
(bsel pt4.isNone
(Q (5:Int) h)
(aF pt4 λa5=>
aS (add a5 2) h λs6=>
f_qer s6 p2 p3 p4 p5 p6 (0:Int) (λs7 n8 h9=>
∃ R10:AH->Prop,(∀ h13,R10 h13->
Q n8 h13)/\
(bsel (n8==(0:Int))
(aF pt4 λa11=>
aC (add a11 2) (.slice s7.a s7.len s7.cap) h9 λh12=>
R10 h12)
(R10 h9))) h)))
def qes_A:qes_T:=qes_G qer_A
def qes_W (f:qes_T):aW [.c .p,.c (.i .i64),.agg [(.i .i64),(.i .i64)],.agg [.b,.b,.b]] EnR:=λp0 p1 p2 p3 p4 p5 p6 K _Kp=>f p0 p1 p2 p3 p4 p5 p6 (λr0=>K (.int .i64 r0))
abbrev qet_T:=Option Addr->Int->Int->Int->(Int->AH->Prop)->AP
def qet_A:qet_T:=λ_ _ _ _ _ _=>False
def qet_W (f:qet_T):aW [.c .p,.c (.i .i64),.agg [(.i .i64),(.i .i64)]] EnR:=λp0 p1 p2 p3 K _Kp=>f p0 p1 p2 p3 (λr0=>K (.int .i64 r0))
abbrev qeu_T:=Option Addr->Int->Int->Int->Bool->Bool->Bool->(Int->AH->Prop)->AP
def qeu_A:qeu_T:=λ_ _ _ _ _ _ _ _ _=>False
def qeu_W (f:qeu_T):aW [.c .p,.c (.i .i64),.agg [(.i .i64),(.i .i64)],.agg [.b,.b,.b]] EnR:=λp0 p1 p2 p3 p4 p5 p6 K _Kp=>f p0 p1 p2 p3 p4 p5 p6 (λr0=>K (.int .i64 r0))
abbrev qev_T:=Option Addr->Int->Int->Int->Int->Bool->Bool->Bool->Int->Int->Int->Int->Int->Int->Int->(Int->Int->AH->Prop)->AP
def qev_G (f_qes:qes_T) (f_qet:qet_T) (f_qeu:qeu_T) (p0:Option Addr) (p1:Int) (p2:Int) (p3:Int) (p4:Int) (p5:Bool) (p6:Bool) (p7:Bool) (_p8:Int) (_p9:Int) (_p10:Int) (_p11:Int) (_p12:Int) (_p13:Int) (_p14:Int) (Q:Int->Int->AH->Prop) (h:AH):Prop:=
(aF p0 λa1=>
aP a1 h λpt2=>
aF pt2 λa3=>
aP a3 h λpt4=>
aF p0 λa5=>
aM (add a5 3) h λmp6=>
qP h mp6 .i64 p1 λo7=>
∃ pt8:Option Addr,((o7.getD (.pointer none)):Value)=(.pointer pt8)/\
(aF pt8 λa9=>
aI .i64 (add a9 1) h λn10=>
bsel (p2==(1:Int))
(f_qes pt4 n10 p3 p4 p5 p6 p7 (λn11 h12=>
Q (0:Int) n11 h12) h)
(bsel (p2==(2:Int))
(f_qet pt4 n10 p3 p4 (λn13 h14=>
Q (0:Int) n13 h14) h)
(f_qeu pt4 n10 p3 p4 p5 p6 p7 (λn15 h16=>
Q (0:Int) n15 h16) h))))
def qev_A:qev_T:=qev_G qes_A qet_A qeu_A
def qev_W (f:qev_T):aW [.c .p,.c (.i .i64),.agg [(.i .i64),(.i .i64),(.i .i64),.b,.b,.b,(.i .u64),(.i .i64),(.i .u64),(.i .i64),(.i .i64),(.i .i64),(.i .i64)]] EnR:=λp0 p1 p2 p3 p4 p5 p6 p7 p8 p9 p10 p11 p12 p13 p14 K _Kp=>f p0 p1 p2 p3 p4 p5 p6 p7 p8 p9 p10 p11 p12 p13 p14 (λr0 r1=>K (.tuple #[(.int .u64 r0),(.int .i64 r1)]))
abbrev qew_T:=Option Addr->Int->Int->Int->Int->Bool->Bool->Bool->Int->Int->Int->Int->Int->Int->Int->(Int->Int->AH->Prop)->AP
def qew_A:qew_T:=λ_ _ _ _ _ _ _ _ _ _ _ _ _ _ _ _ _=>False
def qew_W (f:qew_T):aW [.c .p,.c (.i .i64),.agg [(.i .i64),(.i .i64),(.i .i64),.b,.b,.b,(.i .u64),(.i .i64),(.i .u64),(.i .i64),(.i .i64),(.i .i64),(.i .i64)]] EnR:=λp0 p1 p2 p3 p4 p5 p6 p7 p8 p9 p10 p11 p12 p13 p14 K _Kp=>f p0 p1 p2 p3 p4 p5 p6 p7 p8 p9 p10 p11 p12 p13 p14 (λr0 r1=>K (.tuple #[(.int .u64 r0),(.int .i64 r1)]))
abbrev qex_T:=Option Addr->Int->Int->Int->Int->Bool->Bool->Bool->Int->Int->Int->Int->Int->Int->Int->(Int->Int->AH->Prop)->AP
def qex_A:qex_T:=λ_ _ _ _ _ _ _ _ _ _ _ _ _ _ _ _ _=>False
def qex_W (f:qex_T):aW [.c .p,.c (.i .i64),.agg [(.i .i64),(.i .i64),(.i .i64),.b,.b,.b,(.i .u64),(.i .i64),(.i .u64),(.i .i64),(.i .i64),(.i .i64),(.i .i64)]] EnR:=λp0 p1 p2 p3 p4 p5 p6 p7 p8 p9 p10 p11 p12 p13 p14 K _Kp=>f p0 p1 p2 p3 p4 p5 p6 p7 p8 p9 p10 p11 p12 p13 p14 (λr0 r1=>K (.tuple #[(.int .u64 r0),(.int .i64 r1)]))
abbrev qey_T:=Option Addr->Int->Int->Int->Int->Bool->Bool->Bool->Int->Int->Int->Int->Int->Int->Int->(Int->Int->AH->Prop)->AP
def qey_A:qey_T:=λ_ _ _ _ _ _ _ _ _ _ _ _ _ _ _ _ _=>False
def qey_W (f:qey_T):aW [.c .p,.c (.i .i64),.agg [(.i .i64),(.i .i64),(.i .i64),.b,.b,.b,(.i .u64),(.i .i64),(.i .u64),(.i .i64),(.i .i64),(.i .i64),(.i .i64)]] EnR:=λp0 p1 p2 p3 p4 p5 p6 p7 p8 p9 p10 p11 p12 p13 p14 K _Kp=>f p0 p1 p2 p3 p4 p5 p6 p7 p8 p9 p10 p11 p12 p13 p14 (λr0 r1=>K (.tuple #[(.int .u64 r0),(.int .i64 r1)]))
abbrev qez_T:=Option Addr->(AH->Prop)->AP
def qez_G (f_qch:qch_T) (p0:Option Addr) (Q:AH->Prop) (h:AH):Prop:=
(aF p0 λa1=>
aC (add a1 1) (.int .i64 (0:Int)) h λh2=>
aF p0 λa3=>
aS (add a3 2) h2 λs4=>
bsel (decide ((Int.ofNat s4.len) > (1:Int)))
(aF p0 λa5=>
aF p0 λa6=>
aS (add a5 2) h2 λs7=>
bF (1:Int) (s7.len+1)
(aS (add a6 2) h2 λs8=>
aF s8.a λa9=>
bF (0:Int) s8.len
(aI .i64 a9 h2 λn10=>
(f_qch (Sl.mk (if s7.cap=1 then s7.a else Option.map (λx=>add x (1*1)) s7.a) (s7.len-1) (s7.cap-1)) (λs11 h12=>
(aI .i64 a9 h12 λn13=>
((.int .i64 n13):Value)=(.int .i64 n10))/\
((aS (add a6 2) h12 λs14=>
((.slice s14.a s14.len s14.cap):Value)=(.slice s8.a s8.len s8.cap))/\
(aT h12 (.cells #[(.int .i64 n10)] 3) λb15 h16=>
jZ 1 8 #[(.int .i64 (0:Int))] 3 s11 (Sl.mk (some (mk b15 0 none)) 1 1) h16 λs17 h18=>
aF p0 λa19=>
aC (add a19 2) (.slice s17.a s17.len s17.cap) h18 λh20=>
Q h20))) h2)/\
(aT h2 (.cells #[(.int .i64 n10)] 3) λb21 h22=>
(aS (add a5 2) h22 λs23=>
((.slice s23.a s23.len s23.cap):Value)=(.slice s7.a s7.len s7.cap))/\
(f_qch (Sl.mk (if s7.cap=1 then s7.a else Option.map (λx=>add x (1*1)) s7.a) (s7.len-1) (s7.cap-1)) (λs24 h25=>
jZ 1 8 #[(.int .i64 (0:Int))] 3 s24 (Sl.mk (some (mk b21 0 none)) 1 1) h25 λs26 h27=>
aF p0 λa28=>
aC (add a28 2) (.slice s26.a s26.len s26.cap) h27 λh29=>
Q h29) h22)))))
(Q h2))
def qez_A:qez_T:=qez_G qch_A
def qez_W (f:qez_T):aW [.c .p] EnR:=λp0 K _Kp=>f p0 (K (.tuple #[]))
abbrev qfa_T:=Option Nat->(Option Addr->AH->Prop)->AP
def qfa_A (p0:Option Nat) (Q:Option Addr->AH->Prop) (h:AH):Prop:=
(aT h (.cells #[(.map p0)] 69) λb1 h2=>
Q (some (mk b1 0 none)) h2)
def qfa_W (f:qfa_T):aW [.c .m] EnR:=λp0 K _Kp=>f p0 (λr0=>K (.func (.func 229) #[] #[(.pointer r0)]))
abbrev qfb_T:=Option Addr->(Sl->AH->Prop)->AP
def qfb_A:qfb_T:=clA 3
def qfb_W (f:qfb_T):aW [.fn 229 [] [.p]] EnR:=λp0 K _Kp=>f p0 (λr0=>K (.slice r0.a r0.len r0.cap))
abbrev qfc_T:=Sl->AP->AP
def qfc_A:qfc_T:=soI
def qfc_W (f:qfc_T):aW [.c .s] EnR:=λp0 K _Kp=>f p0 (K (.tuple #[]))
abbrev qfd_T:=Option Addr->(Sl->AH->Prop)->AP
def qfd_G (f_qfb:qfb_T) (f_qfc:qfc_T) (p0:Option Addr) (Q:Sl->AH->Prop) (h:AH):Prop:=
(f_qfb p0 (λs1 h2=>
f_qfc s1 (λh3=>
Q s1 h3) h2) h)
def qfd_A:qfd_T:=qfd_G qfb_A qfc_A
def qfd_W (f:qfd_T):aW [.fn 229 [] [.p]] EnR:=λp0 K _Kp=>f p0 (λr0=>K (.slice r0.a r0.len r0.cap))
abbrev qfe_T:=Option Addr->Int->(Sl->AH->Prop)->AP
def qfe_G (f_qfa:qfa_T) (f_qfd:qfd_T) (p0:Option Addr) (p1:Int) (Q:Sl->AH->Prop) (h:AH):Prop:=
(aF p0 λa1=>
aM a1 h λmp2=>
f_qfa mp2 (λpt3 h4=>
f_qfd pt3 (λs5 h6=>
∃ I7:Sl->Int->Nat->AH->Prop,(∃ m8,I7 Sl.nil (0:Int) m8 h6)/\∀ s11:Sl,∀ x12:Int,∀ m8 h10,I7 s11 x12 m8 h10->
bsel (decide (x12<(Int.ofNat s5.len)))
(∃ R13:Sl->AH->Prop,(∀ s33:Sl,∀ h34,R13 s33 h34->
∃ m9,m9<m8/\I7 s33 (wrap .i64 (x12+(1:Int))) m9 h34)/\
(aF s5.a λa14=>
bF x12 s5.len
(aI .i64 (add a14 (toNat x12*1)) h10 λn15=>
aF p0 λa16=>
aM a16 h10 λmp17=>
qP h10 mp17 .i64 n15 λo18=>
∃ n19:Int,∃ n20:Int,∃ n21:Int,∃ b22:Bool,∃ b23:Bool,∃ n24:Int,((o18.getD (.agg #[(.int .i64 (0:Int)),(.int .i64 (0:Int)),(.int .i64 (0:Int)),(.bool false),(.bool false),(.int .i64 (0:Int))])):Value)=(.agg #[(.int .i64 n19),(.int .i64 n20),(.int .i64 n21),(.bool b22),(.bool b23),(.int .i64 n24)])/\
(bsel (n19==p1)
(aT h10 (.cells #[(.int .i64 n15)] 3) λb25 h26=>
jZ 1 8 #[(.int .i64 (0:Int))] 3 s11 (Sl.mk (some (mk b25 0 none)) 1 1) h26 λs27 h28=>
R13 s27 h28)
(bsel (n21==p1)
(aT h10 (.cells #[(.int .i64 n15)] 3) λb29 h30=>
jZ 1 8 #[(.int .i64 (0:Int))] 3 s11 (Sl.mk (some (mk b29 0 none)) 1 1) h30 λs31 h32=>
R13 s31 h32)
(R13 s11 h10))))))
(Q s11 h10)) h4) h)
def qfe_A:qfe_T:=qfe_G qfa_A qfd_A
def qfe_W (f:qfe_T):aW [.c .p,.c (.i .i64)] EnR:=λp0 p1 K _Kp=>f p0 p1 (λr0=>K (.slice r0.a r0.len r0.cap))
abbrev qff_T:=Option Addr->Int->(Sl->AH->Prop)->AP
def qff_G (f_qfe:qfe_T) (p0:Option Addr) (p1:Int) (Q:Sl->AH->Prop) (h:AH):Prop:=
(f_qfe p0 p1 (λs1 h2=>
∃ I3:Sl->Int->Nat->AH->Prop,(∃ m4,I3 Sl.nil (0:Int) m4 h2)/\∀ s7:Sl,∀ x8:Int,∀ m4 h6,I3 s7 x8 m4 h6->
bsel (decide (x8<(Int.ofNat s1.len)))
(aF s1.a λa9=>
bF x8 s1.len
(aI .i64 (add a9 (toNat x8*1)) h6 λn10=>
aF p0 λa11=>
aM a11 h6 λmp12=>
qP h6 mp12 .i64 n10 λo13=>
∃ n14:Int,∃ n15:Int,∃ n16:Int,∃ b17:Bool,∃ b18:Bool,∃ n19:Int,((o13.getD (.agg #[(.int .i64 (0:Int)),(.int .i64 (0:Int)),(.int .i64 (0:Int)),(.bool false),(.bool false),(.int .i64 (0:Int))])):Value)=(.agg #[(.int .i64 n14),(.int .i64 n15),(.int .i64 n16),(.bool b17),(.bool b18),(.int .i64 n19)])/\
(aT h6 (.cells #[(.int .i64 n14),(.int .i64 n15),(.int .i64 n16),(.bool b17),(.bool b18),(.int .i64 n19)] 175) λb20 h21=>
jZ 6 40 #[(.int .i64 (0:Int)),(.int .i64 (0:Int)),(.int .i64 (0:Int)),(.bool false),(.bool false),(.int .i64 (0:Int))] 175 s7 (Sl.mk (some (mk b20 0 none)) 1 1) h21 λs22 h23=>
aF p0 λa24=>
aM a24 h23 λmp25=>
o5 h23 mp25 .i64 n10 λh26=>
∃ m5,m5<m4/\I3 s22 (wrap .i64 (x8+(1:Int))) m5 h26)))
(Q s7 h6)) h)
def qff_A:qff_T:=qff_G qfe_A
def qff_W (f:qff_T):aW [.c .p,.c (.i .i64)] EnR:=λp0 p1 K _Kp=>f p0 p1 (λr0=>K (.slice r0.a r0.len r0.cap))
abbrev qfg_T:=Option Addr->Int->Int->Int->Bool->Bool->Int->(AH->Prop)->AP
def qfg_A:qfg_T:=λ_ _ _ _ _ _ _ _ _=>False
def qfg_W (f:qfg_T):aW [.c .p,.agg [(.i .i64),(.i .i64),(.i .i64),.b,.b,(.i .i64)]] EnR:=λp0 p1 p2 p3 p4 p5 p6 K _Kp=>f p0 p1 p2 p3 p4 p5 p6 (K (.tuple #[]))
abbrev qfh_T:=Int->Int->Bool->Bool->Bool->Int->Option Addr->(Bool->AH->Prop)->AP
def qfh_A (p0:Int) (p1:Int) (_p2:Bool) (_p3:Bool) (_p4:Bool) (p5:Int) (p6:Option Addr) (Q:Bool->AH->Prop) (h:AH):Prop:=
(bsel (p5==(1:Int))
(aF p6 λa1=>
aI .i64 (add a1 1) h λn2=>
bsel (decide (p0<n2))
(aF p6 λa3=>
aI .i64 a3 h λn4=>
Q (decide (n4<p1)) h)
(Q false h))
(Q false h))
def qfh_W (f:qfh_T):aW [.agg [(.i .i64),(.i .i64),.b,.b,.b,(.i .i64)],.c .p] EnR:=λp0 p1 p2 p3 p4 p5 p6 K _Kp=>f p0 p1 p2 p3 p4 p5 p6 (λr0=>K (.bool r0))
abbrev qfi_T:=Sl->Option Addr->(Int->AH->Prop)->AP
def qfi_G (f_qfh:qfh_T) (p0:Sl) (p1:Option Addr) (Q:Int->AH->Prop) (h:AH):Prop:=
(∃ I1:Int->Nat->AH->Prop,(∃ m2,I1 (0:Int) m2 h)/\∀ x5:Int,∀ m2 h4,I1 x5 m2 h4->
bsel (decide (x5<(Int.ofNat p0.len)))
(aF p0.a λa6=>
bF x5 p0.len
(aI .i64 (add a6 (toNat x5*6)) h4 λn7=>
aI .i64 (add (add a6 (toNat x5*6)) 1) h4 λn8=>
aB (add (add a6 (toNat x5*6)) 2) h4 λb9=>
aB (add (add a6 (toNat x5*6)) 3) h4 λb10=>
aB (add (add a6 (toNat x5*6)) 4) h4 λb11=>
aI .i64 (add (add a6 (toNat x5*6)) 5) h4 λn12=>
f_qfh n7 n8 b9 b10 b11 n12 p1 (λb13 h14=>
bsel b13
(Q x5 h14)
(∃ m3,m3<m2/\I1 (wrap .i64 (x5+(1:Int))) m3 h14)) h4))
(Q (-1:Int) h4))
def qfi_A:qfi_T:=qfi_G qfh_A
def qfi_W (f:qfi_T):aW [.c .s,.fn 158 [] [.p]] EnR:=λp0 p1 K _Kp=>f p0 p1 (λr0=>K (.int .i64 r0))
abbrev qfj_T:=Sl->Option Addr->(Bool->AH->Prop)->AP
def qfj_G (f_qfi:qfi_T) (p0:Sl) (p1:Option Addr) (Q:Bool->AH->Prop) (h:AH):Prop:=
(f_qfi p0 p1 (λn1 h2=>
Q (decide (n1>=(0:Int))) h2) h)
def qfj_A:qfj_T:=qfj_G qfi_A
def qfj_W (f:qfj_T):aW [.c .s,.fn 158 [] [.p]] EnR:=λp0 p1 K _Kp=>f p0 p1 (λr0=>K (.bool r0))
abbrev qfk_T:=Option Addr->Int->Int->(Bool->AH->Prop)->AP
def qfk_G (f_qfj:qfj_T) (p0:Option Addr) (p1:Int) (p2:Int) (Q:Bool->AH->Prop) (h:AH):Prop:=
(aT h (.cells #[(.int .i64 p1),(.int .i64 p2)] 30) λb1 h2=>
aF p0 λa3=>
aM (add a3 3) h2 λmp4=>
rgA h2 mp4 λa5 h6=>
∃ I7:Nat->AH->Prop,(∃ m8,I7 m8 h6)/\∀ m8 h10,I7 m8 h10->
aNx h10 a5 (λh15=>
aF p0 λa16=>
aS (add a16 2) h15 λs17=>
f_qfj s17 (some (mk b1 0 none)) (λb18 h19=>
Q b18 h19) h15) λk11 _ h14=>
∃ n13:Int,(k11:Value)=(.int .i64 n13)/\
(aEy h14 a5 λn20 _=>
aI .i64 (mk b1 0 none) h14 λn22=>
bsel (decide (n20>=n22))
(aI .i64 (add (mk b1 0 none) 1) h14 λn23=>
bsel (decide (n20<n23))
(Q true h14)
(∃ m9,m9<m8/\I7 m9 h14))
(∃ m9,m9<m8/\I7 m9 h14)))
def qfk_A:qfk_T:=qfk_G qfj_A
def qfk_W (f:qfk_T):aW [.c .p,.agg [(.i .i64),(.i .i64)]] EnR:=λp0 p1 p2 K _Kp=>f p0 p1 p2 (λr0=>K (.bool r0))
abbrev qfl_T:=Int->Option Addr->(AH->Prop)->AP
def qfl_A (p0:Int) (p1:Option Addr) (Q:AH->Prop) (h:AH):Prop:=
(aF p1 λa1=>
aS a1 h λs2=>
aT h (.cells #[(.int .i64 p0)] 3) λb3 h4=>
jZ 1 8 #[(.int .i64 (0:Int))] 3 s2 (Sl.mk (some (mk b3 0 none)) 1 1) h4 λs5 h6=>
aF p1 λa7=>
aC a7 (.slice s5.a s5.len s5.cap) h6 λh8=>
Q h8)
def qfl_W (f:qfl_T):aW [.c (.i .i64),.c .p] EnR:=λp0 p1 K _Kp=>f p0 p1 (K (.tuple #[]))
abbrev qfm_T:=Option Addr->Option Addr->Option Addr->Int->Int->Int->Int->Option Addr->(AH->Prop)->AP
def qfm_G (f_self:qfm_T) (f_qdp:qdp_T) (f_qfl:qfl_T) (p0:Option Addr) (p1:Option Addr) (p2:Option Addr) (p3:Int) (p4:Int) (p5:Int) (p6:Int) (p7:Option Addr) (Q:AH->Prop) (h:AH):Prop:=
(∃ I1:Int->Nat->AH->Prop,(∃ m2,I1 (0:Int) m2 h)/\∀ x5:Int,∀ m2 h4,I1 x5 m2 h4->
bsel (decide (x5<(512:Int)))
(∃ R6:AH->Prop,(∀ h21,R6 h21->
∃ m3,m3<m2/\I1 (wrap .i64 (x5+(1:Int))) m3 h21)/\
(∃ R7:AH->Prop,(∀ h8,R7 h8->
f_qdp p0 p1 p2 p3 p4 x5 (λb9 _ _ _ _ _ _ _ n17 h18=>
bsel (!b9)
(R6 h18)
(bsel (p5==(1:Int))
(f_qfl (bits .or .i64 (wrap .i64 (p6*2 ^ (9:Nat))) x5) p7 (λh19=>
R6 h19) h18)
(f_self p0 p1 p2 p3 n17 (wrap .i64 (p5-(1:Int))) (bits .or .i64 (wrap .i64 (p6*2 ^ (9:Nat))) x5) p7 (λh20=>
R6 h20) h18))) h8)/\
(bsel (p5==(4:Int))
(bsel (decide (x5>=(256:Int)))
(Q h4)
(R7 h4))
(R7 h4))))
(Q h4))
def qfm_A:Nat->qfm_T
 | 0=>λ_ _ _ _ _ _ _ _ _ _=>False
 | k+1=>qfm_G (qfm_A k) qdp_A qfl_A
def eG:qfm_T:=λx0 x1 x2 x3 x4 x5 x6 x7 Q h=>∃ k,qfm_A k x0 x1 x2 x3 x4 x5 x6 x7 Q h
def qfm_W (f:qfm_T):aW [.agg [.p,.p,.p,(.i .i64)],.c (.i .i64),.c (.i .i64),.c (.i .i64),.fn 207 [] [.p]] EnR:=λp0 p1 p2 p3 p4 p5 p6 p7 K _Kp=>f p0 p1 p2 p3 p4 p5 p6 p7 (K (.tuple #[]))
abbrev qfn_T:=Option Addr->Option Addr->Option Addr->Int->Int->(Sl->AH->Prop)->AP
def qfn_G (f_qfm:qfm_T) (p0:Option Addr) (p1:Option Addr) (p2:Option Addr) (p3:Int) (p4:Int) (Q:Sl->AH->Prop) (h:AH):Prop:=
(aT h (.cells #[(.slice none 0 0)] 34) λb1 h2=>
f_qfm p0 p1 p2 p3 p4 (4:Int) (0:Int) (some (mk b1 0 none)) (λh3=>
aS (mk b1 0 none) h3 λs4=>
Q s4 h3) h2)
def qfn_A:qfn_T:=qfn_G eG
def qfn_W (f:qfn_T):aW [.agg [.p,.p,.p,(.i .i64)],.c (.i .i64)] EnR:=λp0 p1 p2 p3 p4 K _Kp=>f p0 p1 p2 p3 p4 (λr0=>K (.slice r0.a r0.len r0.cap))
abbrev qfo_T:=Option Addr->Int->Option Addr->Int->(AH->Prop)->AP
def qfo_A:qfo_T:=λ_ _ _ _ _ _=>False
def qfo_W (f:qfo_T):aW [.c .p,.c (.i .i64),.c .p,.c (.i .i64)] EnR:=λp0 p1 p2 p3 K _Kp=>f p0 p1 p2 p3 (K (.tuple #[]))
abbrev qfp_T:=Option Addr->Int->(Int->Bool->AH->Prop)->AP
def qfp_A (p0:Option Addr) (p1:Int) (Q:Int->Bool->AH->Prop) (h:AH):Prop:=
(aF p0 λa1=>
aM (add a1 4) h λmp2=>
qP h mp2 .i64 p1 λo3=>
∃ n4:Int,((o3.getD (.int .i64 (0:Int))):Value)=(.int .i64 n4)/\
(Q n4 o3.isSome h))
def qfp_W (f:qfp_T):aW [.c .p,.c (.i .i64)] EnR:=λp0 p1 K _Kp=>f p0 p1 (λr0 r1=>K (.tuple #[(.int .i64 r0),(.bool r1)]))
abbrev qfq_T:=Bool->Int->Int->Int->Bool->Bool->Bool->Bool->Bool->Option Addr->(Bool->AH->Prop)->AP
def qfq_A (_p0:Bool) (p1:Int) (_p2:Int) (_p3:Int) (_p4:Bool) (_p5:Bool) (_p6:Bool) (p7:Bool) (_p8:Bool) (p9:Option Addr) (Q:Bool->AH->Prop) (h:AH):Prop:=
(aF p9 λa1=>
aI .i64 a1 h λn2=>
bsel (p1==n2)
(Q (!p7) h)
(Q false h))
def qfq_W (f:qfq_T):aW [.agg [.b,(.i .i64),(.i .i64),(.i .i64),.b,.b,.b,.b,.b],.c .p] EnR:=λp0 p1 p2 p3 p4 p5 p6 p7 p8 p9 K _Kp=>f p0 p1 p2 p3 p4 p5 p6 p7 p8 p9 (λr0=>K (.bool r0))
abbrev qfr_T:=Option Addr->Option Addr->(AH->Prop)->AP
def qfr_G (f_qfq:qfq_T) (p0:Option Addr) (p1:Option Addr) (Q:AH->Prop) (h:AH):Prop:=
(∃ I1:Int->Nat->AH->Prop,(∃ m2,I1 (0:Int) m2 h)/\∀ x5:Int,∀ m2 h4,I1 x5 m2 h4->
bsel (decide (x5<(8:Int)))
(∃ I6:Int->Nat->AH->Prop,(∃ m7,I6 (0:Int) m7 h4)/\∀ x10:Int,∀ m7 h9,I6 x10 m7 h9->
bsel (decide (x10<(2:Int)))
(∃ R11:AH->Prop,(∀ h34,R11 h34->
∃ m8,m8<m7/\I6 (wrap .i64 (x10+(1:Int))) m8 h34)/\
(aF p0 λa12=>
bF x5 8
(bF x10 2
(aB (add (add a12 (toNat x5*18)) (toNat x10*9)) h9 λb13=>
aI .i64 (add (add (add a12 (toNat x5*18)) (toNat x10*9)) 1) h9 λn14=>
aI .i64 (add (add (add a12 (toNat x5*18)) (toNat x10*9)) 2) h9 λn15=>
aI .i64 (add (add (add a12 (toNat x5*18)) (toNat x10*9)) 3) h9 λn16=>
aB (add (add (add a12 (toNat x5*18)) (toNat x10*9)) 4) h9 λb17=>
aB (add (add (add a12 (toNat x5*18)) (toNat x10*9)) 5) h9 λb18=>
aB (add (add (add a12 (toNat x5*18)) (toNat x10*9)) 6) h9 λb19=>
aB (add (add (add a12 (toNat x5*18)) (toNat x10*9)) 7) h9 λb20=>
aB (add (add (add a12 (toNat x5*18)) (toNat x10*9)) 8) h9 λb21=>
f_qfq b13 n14 n15 n16 b17 b18 b19 b20 b21 p1 (λb22 h23=>
bsel b22
(aF p0 λa24=>
bF x5 8
(bF x10 2
(aC (add (add a24 (toNat x5*18)) (toNat x10*9)) (.bool false) h23 λh25=>
aC (add (add (add a24 (toNat x5*18)) (toNat x10*9)) 1) (.int .i64 (0:Int)) h25 λh26=>
aC (add (add (add a24 (toNat x5*18)) (toNat x10*9)) 2) (.int .i64 (0:Int)) h26 λh27=>
aC (add (add (add a24 (toNat x5*18)) (toNat x10*9)) 3) (.int .i64 (0:Int)) h27 λh28=>
aC (add (add (add a24 (toNat x5*18)) (toNat x10*9)) 4) (.bool false) h28 λh29=>
aC (add (add (add a24 (toNat x5*18)) (toNat x10*9)) 5) (.bool false) h29 λh30=>
aC (add (add (add a24 (toNat x5*18)) (toNat x10*9)) 6) (.bool false) h30 λh31=>
aC (add (add (add a24 (toNat x5*18)) (toNat x10*9)) 7) (.bool false) h31 λh32=>
aC (add (add (add a24 (toNat x5*18)) (toNat x10*9)) 8) (.bool false) h32 λh33=>
R11 h33)))
(R11 h23)) h9))))
(∃ m3,m3<m2/\I1 (wrap .i64 (x5+(1:Int))) m3 h9))
(Q h4))
def qfr_A:qfr_T:=qfr_G qfq_A
def qfr_W (f:qfr_T):aW [.c .p,.fn 213 [] [.p]] EnR:=λp0 p1 K _Kp=>f p0 p1 (K (.tuple #[]))
abbrev qfs_T:=Option Addr->Int->(AH->Prop)->AP
def qfs_G (f_qfr:qfr_T) (p0:Option Addr) (p1:Int) (Q:AH->Prop) (h:AH):Prop:=
(aT h (.cells #[(.int .i64 p1)] 3) λb1 h2=>
f_qfr p0 (some (mk b1 0 none)) (λh3=>
Q h3) h2)
def qfs_A:qfs_T:=qfs_G qfr_A
def qfs_W (f:qfs_T):aW [.c .p,.c (.i .i64)] EnR:=λp0 p1 K _Kp=>f p0 p1 (K (.tuple #[]))
abbrev qft_T:=Option Addr->Int->(AH->Prop)->AP
def qft_A (p0:Option Addr) (p1:Int) (Q:AH->Prop) (h:AH):Prop:=
(aF p0 λa1=>
aM (add a1 4) h λmp2=>
qP h mp2 .i64 p1 λo3=>
∃ n4:Int,((o3.getD (.int .i64 (0:Int))):Value)=(.int .i64 n4)/\
(bsel o3.isSome
(aF p0 λa5=>
aM (add a5 3) h λmp6=>
o5 h mp6 .i64 n4 λh7=>
aF p0 λa8=>
aM (add a8 4) h7 λmp9=>
o5 h7 mp9 .i64 p1 λh10=>
Q h10)
(Q h)))
def qft_W (f:qft_T):aW [.c .p,.c (.i .i64)] EnR:=λp0 p1 K _Kp=>f p0 p1 (K (.tuple #[]))
abbrev qfu_T:=Option Addr->Option Addr->Option Addr->Int->Int->(Int->AH->Prop)->AP
def qfu_G (f_qfn:qfn_T) (f_qbi:qbi_T) (p0:Option Addr) (p1:Option Addr) (p2:Option Addr) (p3:Int) (p4:Int) (Q:Int->AH->Prop) (h:AH):Prop:=
(f_qfn p0 p1 p2 p3 p4 (λs1 h2=>
bsel (decide ((Int.ofNat s1.len) > (0:Int)))
(Q (11:Int) h2)
(f_qbi p0 p1 p2 p3 p4 (λh3=>
Q (0:Int) h3) h2)) h)
def qfu_A:qfu_T:=qfu_G qfn_A qbi_A
def qfu_W (f:qfu_T):aW [.agg [.p,.p,.p,(.i .i64)],.c (.i .i64)] EnR:=λp0 p1 p2 p3 p4 K _Kp=>f p0 p1 p2 p3 p4 (λr0=>K (.int .i64 r0))
abbrev qfv_T:=Option Addr->Int->(Int->AH->Prop)->AP
def qfv_G (f_qfk:qfk_T) (f_qau:qau_T) (f_qfn:qfn_T) (f_qfo:qfo_T) (f_qfp:qfp_T) (f_qfs:qfs_T) (f_qft:qft_T) (f_qfu:qfu_T) (p0:Option Addr) (p1:Int) (Q:Int->AH->Prop) (h:AH):Prop:=
(aF p0 λa1=>
aM (add a1 6) h λmp2=>
qP h mp2 .i64 p1 λo3=>
∃ pt4:Option Addr,((o3.getD (.pointer none)):Value)=(.pointer pt4)/\
(bsel pt4.isNone
(Q (5:Int) h)
(f_qfk pt4 (0:Int) (34359738368:Int) (λb5 h6=>
bsel b5
(Q (11:Int) h6)
(aF pt4 λa7=>
aI .i64 a7 h6 λn8=>
f_qau p0 n8 (λpt9 pt10 pt11 n12 h13=>
aF pt4 λa14=>
aI .i64 (add a14 1) h13 λn15=>
f_qfn pt9 pt10 pt11 n12 n15 (λs16 h17=>
∃ I18:Int->Nat->AH->Prop,(∃ m19,I18 (0:Int) m19 h17)/\∀ x22:Int,∀ m19 h21,I18 x22 m19 h21->
bsel (decide (x22<(Int.ofNat s16.len)))
(aF s16.a λa23=>
bF x22 s16.len
(aI .i64 (add a23 (toNat x22*1)) h21 λn24=>
f_qfo p0 p1 pt4 n24 (λh25=>
∃ m20,m20<m19/\I18 (wrap .i64 (x22+(1:Int))) m20 h25) h21))
(∃ R26:AH->Prop,(∀ h35,R26 h35->
aF p0 λa36=>
aP (add a36 4) h35 λpt37=>
f_qft pt37 p1 (λh38=>
aF pt4 λa39=>
aI .i64 (add a39 1) h38 λn40=>
f_qfu pt9 pt10 pt11 n12 n40 (λ_ h42=>
aF p0 λa43=>
aM (add a43 6) h42 λmp44=>
o5 h42 mp44 .i64 p1 λh45=>
Q (0:Int) h45) h38) h35)/\
(aF p0 λa27=>
aP (add a27 4) h21 λpt28=>
f_qfp pt28 p1 (λn29 b30 h31=>
bsel b30
(aF p0 λa32=>
aP (add a32 3) h31 λpt33=>
f_qfs pt33 n29 (λh34=>
R26 h34) h31)
(R26 h31)) h21))) h13) h6)) h)))
def qfv_A:qfv_T:=qfv_G qfk_A qau_A qfn_A qfo_A qfp_A qfs_A qft_A qfu_A
def qfv_W (f:qfv_T):aW [.c .p,.c (.i .i64)] EnR:=λp0 p1 K _Kp=>f p0 p1 (λr0=>K (.int .i64 r0))
abbrev qfw_T:=Sl->Int->Int->(Sl->AH->Prop)->AP
def qfw_A (p0:Sl) (p1:Int) (p2:Int) (Q:Sl->AH->Prop) (h:AH):Prop:=
(bF (Int.ofNat p0.len) (p0.cap+1)
(bF p2 ((toNat (Int.ofNat p0.len))+1)
(bF p1 ((toNat p2)+1)
(bsel (p1==p2)
(Q p0 h)
(bF p1 (p0.cap+1)
(bF p2 (p0.len+1)
(jZ 1 8 #[(.int .i64 (0:Int))] 3 (Sl.mk (if p0.cap=0 then p0.a else Option.map (λx=>add x (0*1)) p0.a) (toNat p1) p0.cap) (Sl.mk (if p0.cap=(toNat p2) then p0.a else Option.map (λx=>add x ((toNat p2)*1)) p0.a) (p0.len-(toNat p2)) (p0.cap-(toNat p2))) h λs1 h2=>
bF (Int.ofNat p0.len) (s1.cap+1)
(bF (Int.ofNat s1.len) ((toNat (Int.ofNat p0.len))+1)
(aIe #[(.int .i64 (0:Int))] (Sl.mk (if s1.cap=(toNat (Int.ofNat s1.len)) then s1.a else Option.map (λx=>add x ((toNat (Int.ofNat s1.len))*1)) s1.a) ((toNat (Int.ofNat p0.len))-(toNat (Int.ofNat s1.len))) (s1.cap-(toNat (Int.ofNat s1.len)))) h2 λh3=>
Q s1 h3)))))))))
def qfw_W (f:qfw_T):aW [.c .s,.c (.i .i64),.c (.i .i64)] EnR:=λp0 p1 p2 K _Kp=>f p0 p1 p2 (λr0=>K (.slice r0.a r0.len r0.cap))
abbrev qfx_T:=Option Addr->Int->(Int->AH->Prop)->AP
def qfx_G (f_qcf:qcf_T) (f_qch:qch_T) (f_qfw:qfw_T) (p0:Option Addr) (p1:Int) (Q:Int->AH->Prop) (h:AH):Prop:=
(aF p0 λa1=>
aS (add a1 2) h λs2=>
f_qcf s2 p1 (λn3 h4=>
bsel (decide (n3<(0:Int)))
(Q (5:Int) h4)
(∃ R5:AH->Prop,(∀ h8,R5 h8->
aF p0 λa9=>
aS (add a9 2) h8 λs10=>
f_qch s10 (λs11 h12=>
f_qfw s11 n3 (wrap .i64 (n3+(1:Int))) (λs13 h14=>
aF p0 λa15=>
aC (add a15 2) (.slice s13.a s13.len s13.cap) h14 λh16=>
Q (0:Int) h16) h12) h8)/\
(bsel (n3==(0:Int))
(aF p0 λa6=>
aC (add a6 1) (.int .i64 (0:Int)) h4 λh7=>
R5 h7)
(R5 h4)))) h)
def qfx_A:qfx_T:=qfx_G qcf_A qch_A qfw_A
def qfx_W (f:qfx_T):aW [.c .p,.c (.i .i64)] EnR:=λp0 p1 K _Kp=>f p0 p1 (λr0=>K (.int .i64 r0))
abbrev qfy_T:=Option Addr->Int->(AH->Prop)->AP
def qfy_G (f_self:qfy_T) (f_qff:qff_T) (f_qfg:qfg_T) (f_qfv:qfv_T) (f_qce:qce_T) (f_qfx:qfx_T) (p0:Option Addr) (p1:Int) (Q:AH->Prop) (h:AH):Prop:=
(∃ I1:Int->Nat->AH->Prop,(∃ m2,I1 (0:Int) m2 h)/\∀ x5:Int,∀ m2 h4,I1 x5 m2 h4->
bsel (decide (x5<(16:Int)))
(∃ R6:AH->Prop,(∀ h14,R6 h14->
∃ m3,m3<m2/\I1 (wrap .i64 (x5+(1:Int))) m3 h14)/\
(aF p0 λa7=>
aM (add a7 3) h4 λmp8=>
qP h4 mp8 .i64 x5 λo9=>
∃ pt10:Option Addr,((o9.getD (.pointer none)):Value)=(.pointer pt10)/\
(bsel (!pt10.isNone)
(bsel (x5 != (0:Int))
(aF pt10 λa11=>
aI .i64 (add a11 2) h4 λn12=>
bsel (n12==p1)
(f_self p0 x5 (λh13=>
R6 h13) h4)
(R6 h4))
(R6 h4))
(R6 h4))))
(aF p0 λa15=>
f_qff (some (add a15 2)) p1 (λs16 h17=>
∃ I18:Int->Nat->AH->Prop,(∃ m19,I18 (0:Int) m19 h17)/\∀ x22:Int,∀ m19 h21,I18 x22 m19 h21->
bsel (decide (x22<(Int.ofNat s16.len)))
(aF s16.a λa23=>
bF x22 s16.len
(aI .i64 (add a23 (toNat x22*6)) h21 λn24=>
aI .i64 (add (add a23 (toNat x22*6)) 1) h21 λn25=>
aI .i64 (add (add a23 (toNat x22*6)) 2) h21 λn26=>
aB (add (add a23 (toNat x22*6)) 3) h21 λb27=>
aB (add (add a23 (toNat x22*6)) 4) h21 λb28=>
aI .i64 (add (add a23 (toNat x22*6)) 5) h21 λn29=>
f_qfg p0 n24 n25 n26 b27 b28 n29 (λh30=>
∃ m20,m20<m19/\I18 (wrap .i64 (x22+(1:Int))) m20 h30) h21))
(aF p0 λa31=>
aM (add a31 3) h21 λmp32=>
qP h21 mp32 .i64 p1 λo33=>
∃ pt34:Option Addr,((o33.getD (.pointer none)):Value)=(.pointer pt34)/\
(aF p0 λa35=>
aP a35 h21 λpt36=>
aF pt36 λa37=>
aP a37 h21 λpt38=>
aF pt34 λa39=>
aI .i64 (add a39 1) h21 λn40=>
f_qfv pt38 n40 (λ_ h42=>
aF p0 λa43=>
aP a43 h42 λpt44=>
aF pt44 λa45=>
aP a45 h42 λpt46=>
aF pt46 λa47=>
aP (add a47 2) h42 λpt48=>
aF pt34 λa49=>
aI .i64 a49 h42 λn50=>
f_qce pt48 n50 (λ_ h52=>
aF p0 λa53=>
aP (add a53 1) h52 λpt54=>
f_qfx pt54 p1 (λ_ h56=>
aF p0 λa57=>
aM (add a57 3) h56 λmp58=>
o5 h56 mp58 .i64 p1 λh59=>
Q h59) h52) h42) h21))) h4))
def qfy_A:Nat->qfy_T
 | 0=>λ_ _ _ _=>False
 | k+1=>qfy_G (qfy_A k) qff_A qfg_A qfv_A qce_A qfx_A
def dT:qfy_T:=λx0 x1 Q h=>∃ k,qfy_A k x0 x1 Q h
def qfy_W (f:qfy_T):aW [.c .p,.c (.i .i64)] EnR:=λp0 p1 K _Kp=>f p0 p1 (K (.tuple #[]))
abbrev qfz_T:=Option Addr->Int->Int->Int->Int->Bool->Bool->Bool->Int->Int->Int->Int->Int->Int->Int->(Int->Int->AH->Prop)->AP
def qfz_G (f_qcj:qcj_T) (f_qez:qez_T) (f_qfy:qfy_T) (p0:Option Addr) (p1:Int) (p2:Int) (_p3:Int) (_p4:Int) (_p5:Bool) (_p6:Bool) (_p7:Bool) (_p8:Int) (_p9:Int) (_p10:Int) (p11:Int) (_p12:Int) (_p13:Int) (_p14:Int) (Q:Int->Int->AH->Prop) (h:AH):Prop:=
(∃ R1:AH->Prop,(∀ h15,R1 h15->
Q (0:Int) (0:Int) h15)/\
(bsel (p2==(12:Int))
(aF p0 λa2=>
aM (add a2 3) h λmp3=>
qP h mp3 .i64 p1 λo4=>
∃ pt5:Option Addr,((o4.getD (.pointer none)):Value)=(.pointer pt5)/\
(aF pt5 λa6=>
aI .i64 a6 h λn7=>
f_qcj p0 p1 n7 p11 (λn8 n9 h10=>
Q (wrap .u64 n8) n9 h10) h))
(bsel (p2==(14:Int))
(aF p0 λa11=>
aP (add a11 1) h λpt12=>
f_qez pt12 (λh13=>
R1 h13) h)
(bsel (p1==(0:Int))
(Q (0:Int) (10:Int) h)
(f_qfy p0 p1 (λh14=>
R1 h14) h)))))
def qfz_A:qfz_T:=qfz_G qcj_A qez_A dT
def qfz_W (f:qfz_T):aW [.c .p,.c (.i .i64),.agg [(.i .i64),(.i .i64),(.i .i64),.b,.b,.b,(.i .u64),(.i .i64),(.i .u64),(.i .i64),(.i .i64),(.i .i64),(.i .i64)]] EnR:=λp0 p1 p2 p3 p4 p5 p6 p7 p8 p9 p10 p11 p12 p13 p14 K _Kp=>f p0 p1 p2 p3 p4 p5 p6 p7 p8 p9 p10 p11 p12 p13 p14 (λr0 r1=>K (.tuple #[(.int .u64 r0),(.int .i64 r1)]))
abbrev qga_T:=Option Addr->Int->Int->Int->Int->Bool->Bool->Bool->Int->Int->Int->Int->Int->Int->Int->(Int->Int->AH->Prop)->AP
def qga_A:qga_T:=λ_ _ _ _ _ _ _ _ _ _ _ _ _ _ _ _ _=>False
def qga_W (f:qga_T):aW [.c .p,.c (.i .i64),.agg [(.i .i64),(.i .i64),(.i .i64),.b,.b,.b,(.i .u64),(.i .i64),(.i .u64),(.i .i64),(.i .i64),(.i .i64),(.i .i64)]] EnR:=λp0 p1 p2 p3 p4 p5 p6 p7 p8 p9 p10 p11 p12 p13 p14 K _Kp=>f p0 p1 p2 p3 p4 p5 p6 p7 p8 p9 p10 p11 p12 p13 p14 (λr0 r1=>K (.tuple #[(.int .u64 r0),(.int .i64 r1)]))
abbrev qgb_T:=Option Addr->Int->Int->Int->Int->Int->Int->(Int->Int->Int->Int->Int->Bool->AH->Prop)->AP
def qgb_G (f_qcl:qcl_T) (f_qcu:qcu_T) (f_qeh:qeh_T) (f_qev:qev_T) (f_qew:qew_T) (f_qex:qex_T) (f_qey:qey_T) (f_qfz:qfz_T) (f_qga:qga_T) (p0:Option Addr) (p1:Int) (p2:Int) (p3:Int) (p4:Int) (p5:Int) (p6:Int) (Q:Int->Int->Int->Int->Int->Bool->AH->Prop) (h:AH):Prop:=
(aF p0 λa1=>
aP (add a1 1) h λpt2=>
bsel pt2.isNone
(Q (0:Int) (0:Int) (12:Int) (0:Int) (0:Int) (false:Bool) h)
(aF p0 λa3=>
aP (add a3 1) h λpt4=>
f_qcl pt4 (λn5 _ h7=>
f_qcu p1 p2 p3 p4 p5 p6 (λn8 n9 n10 b11 b12 b13 n14 n15 n16 n17 n18 n19 n20 n21 h22=>
bsel (n21 != (0:Int))
(Q n5 (0:Int) n21 (0:Int) (0:Int) (false:Bool) h22)
(∃ R23:Int->Int->Int->Int->Int->Bool->AH->Prop,(∀ c38:Int,∀ c39:Int,∀ c40:Int,∀ c41:Int,∀ c42:Int,∀ c43:Bool,∀ h44,R23 c38 c39 c40 c41 c42 c43 h44->
∃ R45:Int->Int->AH->Prop,(∀ c73:Int,∀ c74:Int,∀ h75,R45 c73 c74 h75->
Q n5 c73 c74 (0:Int) (0:Int) (false:Bool) h75)/\
(∃ R46:Bool->AH->Prop,(∀ b47:Bool,∀ h48,R46 b47 h48->
bsel b47
(f_qev p0 n5 n8 n9 n10 b11 b12 b13 n14 n15 n16 n17 n18 n19 n20 (λn49 n50 h51=>
R45 n49 n50 h51) h48)
(bsel (n8==(6:Int))
(f_qew p0 n5 n8 n9 n10 b11 b12 b13 n14 n15 n16 n17 n18 n19 n20 (λn52 n53 h54=>
R45 n52 n53 h54) h48)
(bsel (n8==(7:Int))
(f_qex p0 n5 n8 n9 n10 b11 b12 b13 n14 n15 n16 n17 n18 n19 n20 (λn55 n56 h57=>
R45 n55 n56 h57) h48)
(∃ R58:Bool->AH->Prop,(∀ b59:Bool,∀ h60,R58 b59 h60->
bsel b59
(f_qey p0 n5 n8 n9 n10 b11 b12 b13 n14 n15 n16 n17 n18 n19 n20 (λn61 n62 h63=>
R45 n61 n62 h63) h60)
(∃ R64:Bool->AH->Prop,(∀ b65:Bool,∀ h66,R64 b65 h66->
bsel b65
(f_qfz p0 n5 n8 n9 n10 b11 b12 b13 n14 n15 n16 n17 n18 n19 n20 (λn67 n68 h69=>
R45 n67 n68 h69) h66)
(f_qga p0 n5 n8 n9 n10 b11 b12 b13 n14 n15 n16 n17 n18 n19 n20 (λn70 n71 h72=>
R45 n70 n71 h72) h66))/\
(bsel (n8==(12:Int))
(R64 (n8==(12:Int)) h60)
(bsel (n8==(13:Int))
(R64 (n8==(13:Int)) h60)
(R64 (n8==(14:Int)) h60)))))/\
(bsel (n8==(8:Int))
(R58 (n8==(8:Int)) h48)
(R58 (n8==(9:Int)) h48))))))/\
(bsel (n8==(1:Int))
(R46 (n8==(1:Int)) h44)
(bsel (n8==(2:Int))
(R46 (n8==(2:Int)) h44)
(R46 (n8==(3:Int)) h44)))))/\
(bsel (n8==(4:Int))
(f_qeh p0 n5 n8 n9 n10 b11 b12 b13 n14 n15 n16 n17 n18 n19 n20 (λn24 n25 n26 n27 n28 b29 h30=>
Q n24 n25 n26 n27 n28 b29 h30) h22)
(bsel (n8==(5:Int))
(f_qeh p0 n5 n8 n9 n10 b11 b12 b13 n14 n15 n16 n17 n18 n19 n20 (λn31 n32 n33 n34 n35 b36 h37=>
Q n31 n32 n33 n34 n35 b36 h37) h22)
(R23 (0:Int) (0:Int) (0:Int) (0:Int) (0:Int) false h22))))) h7) h))
def qgb_A:qgb_T:=qgb_G qcl_A qcu_A qeh_A qev_A qew_A qex_A qey_A qfz_A qga_A
def qgb_W (f:qgb_T):aW [.c .p,.agg [(.i .u64),(.i .u64),(.i .u64),(.i .u64),(.i .u64),(.i .u64)]] EnR:=λp0 p1 p2 p3 p4 p5 p6 K _Kp=>f p0 p1 p2 p3 p4 p5 p6 (λr0 r1 r2 r3 r4 r5=>K (.agg #[(.int .i64 r0),(.int .u64 r1),(.int .i64 r2),(.int .u64 r3),(.int .i64 r4),(.bool r5)]))
abbrev qgc_T:=Option Addr->(Int->AH->Prop)->AP
def qgc_G (f_qcl:qcl_T) (p0:Option Addr) (Q:Int->AH->Prop) (h:AH):Prop:=
(aF p0 λa1=>
aP (add a1 1) h λpt2=>
bsel pt2.isNone
(Q (0:Int) h)
(aF p0 λa3=>
aP (add a3 1) h λpt4=>
f_qcl pt4 (λn5 _ h7=>
Q n5 h7) h))
def qgc_A:qgc_T:=qgc_G qcl_A
def qgc_W (f:qgc_T):aW [.c .p] EnR:=λp0 K _Kp=>f p0 (λr0=>K (.int .i64 r0))
abbrev qgd_T:=(Bool->AH->Prop)->AP
def qgd_G (f_qac:qac_T) (f_qck:qck_T) (f_qgb:qgb_T) (f_qgc:qgc_T) (Q:Bool->AH->Prop) (h:AH):Prop:=
(f_qac (40:Int) (3:Int) (2:Int) Sl.nil (λn1 n2 n3 n4 s5 n6 s7 h8=>
f_qck n1 n2 n3 n4 s5 n6 s7 (λpt9 n10 h11=>
∃ R12:AH->Prop,(∀ h13,R12 h13->
f_qgb pt9 (4:Int) (0:Int) (8:Int) (0:Int) (0:Int) (0:Int) (λ_ _ n16 _ n18 b19 h20=>
f_qgb pt9 (1:Int) (0:Int) (4:Int) (1:Int) (0:Int) (0:Int) (λ_ _ n23 _ _ _ h27=>
f_qgb pt9 (5:Int) (8:Int) (8:Int) (5:Int) (0:Int) (0:Int) (λ_ _ n30 _ _ _ h34=>
f_qgb pt9 (4:Int) (8:Int) (8:Int) (0:Int) (0:Int) (0:Int) (λ_ n36 _ _ _ _ h41=>
bsel (n16==(9:Int))
(bsel (n18==(4:Int))
(bsel (!b19)
(bsel (n23==(0:Int))
(bsel (n30==(0:Int))
(bsel (n36==(5:Int))
(f_qgc pt9 (λn42 h43=>
Q (n42==(0:Int)) h43) h41)
(Q false h41))
(Q false h41))
(Q false h41))
(Q false h41))
(Q false h41))
(Q false h41)) h34) h27) h20) h13)/\
(bsel (n10 != (0:Int))
(Q false h11)
(bsel pt9.isNone
(Q false h11)
(R12 h11)))) h8) h)
def qgd_A:qgd_T:=qgd_G qac_A qck_A qgb_A qgc_A
def qgd_W (f:qgd_T):aW [] EnR:=fun  K _Kp=>f  (λr0=>K (.bool r0))
abbrev qge_T:=Option Addr->(Option Addr->AH->Prop)->AP
def qge_A (p0:Option Addr) (Q:Option Addr->AH->Prop) (h:AH):Prop:=
(aF p0 λa1=>
aP a1 h λpt2=>
bsel pt2.isNone
(Q none h)
(aF p0 λa3=>
aP a3 h λpt4=>
aF pt4 λa5=>
aP a5 h λpt6=>
Q pt6 h))
def qge_W (f:qge_T):aW [.c .p] EnR:=λp0 K _Kp=>f p0 (λr0=>K (.pointer r0))
abbrev qgf_T:=Option Addr->Int->(Int->Int->Int->Int->Bool->Bool->AH->Prop)->AP
def qgf_G (f_qav:qav_T) (p0:Option Addr) (p1:Int) (Q:Int->Int->Int->Int->Bool->Bool->AH->Prop) (h:AH):Prop:=
(f_qav p0 p1 (λpt1 b2 h3=>
bsel b2
(aF pt1 λa4=>
aI .i64 a4 h3 λn5=>
aI .i64 (add a4 1) h3 λn6=>
aI .i64 (add a4 2) h3 λn7=>
aI .i64 (add a4 3) h3 λn8=>
aB (add a4 4) h3 λb9=>
Q n5 n6 n7 n8 b9 true h3)
(Q (0:Int) (0:Int) (0:Int) (0:Int) (false:Bool) false h3)) h)
def qgf_A:qgf_T:=qgf_G qav_A
def qgf_W (f:qgf_T):aW [.c .p,.c (.i .i64)] EnR:=λp0 p1 K _Kp=>f p0 p1 (λr0 r1 r2 r3 r4 r5=>K (.tuple #[(.agg #[(.int .i64 r0),(.int .i64 r1),(.int .i64 r2),(.int .i64 r3),(.bool r4)]),(.bool r5)]))
abbrev qgg_T:=Option Addr->Int->(Int->Int->Int->Int->Int->Int->Bool->Int->Int->Int->Int->Int->Int->Int->Int->Int->Int->Int->Bool->AH->Prop)->AP
def qgg_G (f_qgf:qgf_T) (f_qaw:qaw_T) (p0:Option Addr) (p1:Int) (Q:Int->Int->Int->Int->Int->Int->Bool->Int->Int->Int->Int->Int->Int->Int->Int->Int->Int->Int->Bool->AH->Prop) (h:AH):Prop:=
(aF p0 λa1=>
aM (add a1 3) h λmp2=>
qP h mp2 .i64 p1 λo3=>
∃ pt4:Option Addr,((o3.getD (.pointer none)):Value)=(.pointer pt4)/\
(bsel pt4.isNone
(Q (0:Int) (0:Int) (0:Int) (0:Int) (0:Int) (0:Int) (false:Bool) (0:Int) (0:Int) (0:Int) (0:Int) (0:Int) (0:Int) (0:Int) (0:Int) (0:Int) (0:Int) (0:Int) false h)
(aF p0 λa5=>
aF pt4 λa6=>
aP a5 h λpt7=>
aF pt7 λa8=>
aP a8 h λpt9=>
aF pt9 λa10=>
aP (add a10 2) h λpt11=>
aI .i64 a6 h λn12=>
f_qgf pt11 n12 (λ_ n14 n15 _ _ _ h19=>
aF pt4 λa20=>
aF pt4 λa21=>
aF p0 λa22=>
aF pt4 λa23=>
aF pt4 λa24=>
aI .u64 (add a20 3) h19 λn25=>
aI .u64 (add (add a20 3) 1) h19 λn26=>
aI .u64 (add (add a20 3) 2) h19 λn27=>
aI .u64 (add (add a20 3) 3) h19 λn28=>
aI .i64 (add (add a20 3) 4) h19 λn29=>
aI .u64 (add (add a20 3) 5) h19 λn30=>
aB (add (add a20 3) 6) h19 λb31=>
aI .u64 (add (add a20 3) 7) h19 λn32=>
aI .i64 (add (add a20 3) 8) h19 λn33=>
aI .u64 (add (add a20 3) 9) h19 λn34=>
aI .u64 (add (add a20 3) 10) h19 λn35=>
aI .u64 (add (add a20 3) 11) h19 λn36=>
aI .u64 (add (add a20 3) 12) h19 λn37=>
aI .i64 (add a21 2) h19 λn38=>
aP a22 h19 λpt39=>
aF pt39 λa40=>
aP a40 h19 λpt41=>
aF pt41 λa42=>
aP (add a42 2) h19 λpt43=>
aI .i64 a23 h19 λn44=>
aI .i64 (add a24 1) h19 λn45=>
f_qaw pt43 n44 (λn46 h47=>
(aI .i64 (add a24 1) h47 λn48=>
((.int .i64 n48):Value)=(.int .i64 n45))/\
((aI .i64 (add a21 2) h47 λn49=>
((.int .i64 n49):Value)=(.int .i64 n38))/\
((aI .u64 (add a20 3) h47 λn50=>
aI .u64 (add (add a20 3) 1) h47 λn51=>
aI .u64 (add (add a20 3) 2) h47 λn52=>
aI .u64 (add (add a20 3) 3) h47 λn53=>
aI .i64 (add (add a20 3) 4) h47 λn54=>
aI .u64 (add (add a20 3) 5) h47 λn55=>
aB (add (add a20 3) 6) h47 λb56=>
aI .u64 (add (add a20 3) 7) h47 λn57=>
aI .i64 (add (add a20 3) 8) h47 λn58=>
aI .u64 (add (add a20 3) 9) h47 λn59=>
aI .u64 (add (add a20 3) 10) h47 λn60=>
aI .u64 (add (add a20 3) 11) h47 λn61=>
aI .u64 (add (add a20 3) 12) h47 λn62=>
((.agg #[(.int .u64 n50),(.int .u64 n51),(.int .u64 n52),(.int .u64 n53),(.int .i64 n54),(.int .u64 n55),(.bool b56),(.int .u64 n57),(.int .i64 n58),(.int .u64 n59),(.int .u64 n60),(.int .u64 n61),(.int .u64 n62)]):Value)=(.agg #[(.int .u64 n25),(.int .u64 n26),(.int .u64 n27),(.int .u64 n28),(.int .i64 n29),(.int .u64 n30),(.bool b31),(.int .u64 n32),(.int .i64 n33),(.int .u64 n34),(.int .u64 n35),(.int .u64 n36),(.int .u64 n37)]))/\
(Q n25 n26 n27 n28 n29 n30 b31 n32 n33 n34 n35 n36 n37 n38 n14 n15 n46 n45 true h47)))) h19) h)))
def qgg_A:qgg_T:=qgg_G qgf_A qaw_A
def qgg_W (f:qgg_T):aW [.c .p,.c (.i .i64)] EnR:=λp0 p1 K _Kp=>f p0 p1 (λr0 r1 r2 r3 r4 r5 r6 r7 r8 r9 r10 r11 r12 r13 r14 r15 r16 r17 r18=>K (.tuple #[(.agg #[(.int .u64 r0),(.int .u64 r1),(.int .u64 r2),(.int .u64 r3),(.int .i64 r4),(.int .u64 r5),(.bool r6),(.int .u64 r7),(.int .i64 r8),(.int .u64 r9),(.int .u64 r10),(.int .u64 r11),(.int .u64 r12),(.int .i64 r13),(.int .i64 r14),(.int .i64 r15),(.int .i64 r16),(.int .i64 r17)]),(.bool r18)]))
abbrev qgh_T:=Option Addr->(Sl->AH->Prop)->AP
def qgh_G (f_qch:qch_T) (p0:Option Addr) (Q:Sl->AH->Prop) (h:AH):Prop:=
(aF p0 λa1=>
aS (add a1 2) h λs2=>
f_qch s2 (λs3 h4=>
Q s3 h4) h)
def qgh_A:qgh_T:=qgh_G qch_A
def qgh_W (f:qgh_T):aW [.c .p] EnR:=λp0 K _Kp=>f p0 (λr0=>K (.slice r0.a r0.len r0.cap))
abbrev qgi_T:=Option Addr->(Sl->AH->Prop)->AP
def qgi_G (f_qgh:qgh_T) (p0:Option Addr) (Q:Sl->AH->Prop) (h:AH):Prop:=
(aF p0 λa1=>
aP (add a1 1) h λpt2=>
bsel pt2.isNone
(Q Sl.nil h)
(aF p0 λa3=>
aP (add a3 1) h λpt4=>
f_qgh pt4 (λs5 h6=>
Q s5 h6) h))
def qgi_A:qgi_T:=qgi_G qgh_A
def qgi_W (f:qgi_T):aW [.c .p] EnR:=λp0 K _Kp=>f p0 (λr0=>K (.slice r0.a r0.len r0.cap))
abbrev qgj_T:=Int->Int->(Bool->AH->Prop)->AP
def qgj_G (f_qgd:qgd_T) (f_qac:qac_T) (f_qck:qck_T) (f_qge:qge_T) (f_qas:qas_T) (f_qgc:qgc_T) (f_qgb:qgb_T) (f_qgg:qgg_T) (f_qgi:qgi_T) (p0:Int) (p1:Int) (Q:Bool->AH->Prop) (h:AH):Prop:=
(∃ R1:AH->Prop,(∀ h10,R1 h10->
f_qac (150:Int) (3:Int) (1000:Int) Sl.nil (λn11 n12 n13 n14 s15 n16 s17 h18=>
f_qck n11 n12 n13 n14 s15 n16 s17 (λpt19 n20 h21=>
∃ R22:AH->Prop,(∀ h23,R22 h23->
f_qge pt19 (λpt24 h25=>
aF pt24 λa26=>
aP (add a26 1) h25 λpt27=>
f_qas pt27 (λn28 h29=>
∃ I30:Int->Nat->AH->Prop,(∃ m31,I30 (1:Int) m31 h29)/\∀ x34:Int,∀ m31 h33,I30 x34 m31 h33->
bsel (decide (x34<=p0))
(∃ I35:Int->Nat->AH->Prop,(∃ m36,I35 (0:Int) m36 h33)/\∀ x39:Int,∀ m36 h38,I35 x39 m36 h38->
bsel (decide (x39<(20:Int)))
(f_qgc pt19 (λn40 h41=>
bsel (n40 != (wrap .i64 (x34-(1:Int))))
(f_qgb pt19 (14:Int) (0:Int) (0:Int) (0:Int) (0:Int) (0:Int) (λ_ _ _ _ _ _ h48=>
∃ m37,m37<m36/\I35 (wrap .i64 (x39+(1:Int))) m37 h48) h41)
(f_qgb pt19 (12:Int) (wrap .u64 (wrap .i64 ((100:Int)-(wrap .i64 ((5:Int)*x34))))) (0:Int) (0:Int) (0:Int) (0:Int) (λ_ n50 n51 _ _ _ h55=>
bsel (n51 != (0:Int))
(Q false h55)
(bsel (n50 != (wrap .u64 x34))
(Q false h55)
(∃ m32,m32<m31/\I30 (wrap .i64 (x34+(1:Int))) m32 h55))) h41)) h38)
(f_qgb pt19 (12:Int) (wrap .u64 (wrap .i64 ((100:Int)-(wrap .i64 ((5:Int)*x34))))) (0:Int) (0:Int) (0:Int) (0:Int) (λ_ n57 n58 _ _ _ h62=>
bsel (n58 != (0:Int))
(Q false h62)
(bsel (n57 != (wrap .u64 x34))
(Q false h62)
(∃ m32,m32<m31/\I30 (wrap .i64 (x34+(1:Int))) m32 h62))) h38))
(∃ R63:AH->Prop,(∀ h78,R63 h78->
f_qgb pt19 (13:Int) (0:Int) (0:Int) (0:Int) (0:Int) (0:Int) (λ_ _ n81 _ _ _ h85=>
∃ I86:Int->Nat->AH->Prop,(∃ m87,I86 (0:Int) m87 h85)/\∀ x90:Int,∀ m87 h89,I86 x90 m87 h89->
bsel (decide (x90<=p0))
(f_qgg pt19 x90 (λ_ _ _ _ _ _ _ _ _ _ _ _ _ _ _ _ _ _ b109 h110=>
bsel (!(b109==(decide (x90<p1))))
(Q false h110)
(∃ m88,m88<m87/\I86 (wrap .i64 (x90+(1:Int))) m88 h110)) h89)
(f_qgd (λb111 h112=>
bsel b111
(bsel (n81==(0:Int))
(f_qgi pt19 (λs113 h114=>
bsel ((Int.ofNat s113.len)==p1)
(f_qge pt19 (λpt115 h116=>
aF pt115 λa117=>
aP (add a117 1) h116 λpt118=>
f_qas pt118 (λn119 h120=>
Q (n119==(wrap .i64 (n28-(wrap .i64 (p1-(1:Int)))))) h120) h116) h114)
(Q false h114)) h112)
(Q false h112))
(Q false h112)) h89)) h78)/\
(∃ I64:Int->Nat->AH->Prop,(∃ m65,I64 (0:Int) m65 h33)/\∀ x68:Int,∀ m65 h67,I64 x68 m65 h67->
bsel (decide (x68<(20:Int)))
(f_qgc pt19 (λn69 h70=>
bsel (n69 != p1)
(f_qgb pt19 (14:Int) (0:Int) (0:Int) (0:Int) (0:Int) (0:Int) (λ_ _ _ _ _ _ h77=>
∃ m66,m66<m65/\I64 (wrap .i64 (x68+(1:Int))) m66 h77) h70)
(R63 h70)) h67)
(R63 h67)))) h25) h23)/\
(bsel (n20 != (0:Int))
(Q false h21)
(bsel pt19.isNone
(Q false h21)
(R22 h21)))) h18) h10)/\
(bsel (decide (p0<(1:Int)))
(f_qgd (λb2 h3=>
Q b2 h3) h)
(bsel (decide (p0 > (12:Int)))
(f_qgd (λb4 h5=>
Q b4 h5) h)
(bsel (decide (p1<(1:Int)))
(f_qgd (λb6 h7=>
Q b6 h7) h)
(bsel (decide (p1 > p0))
(f_qgd (λb8 h9=>
Q b8 h9) h)
(R1 h))))))
def qgj_A:qgj_T:=qgj_G qgd_A qac_A qck_A qge_A qas_A qgc_A qgb_A qgg_A qgi_A
def qgj_W (f:qgj_T):aW [.c (.i .i64),.c (.i .i64)] EnR:=λp0 p1 K _Kp=>f p0 p1 (λr0=>K (.bool r0))
end Go.Dn
