/- Printed by gen3.py: what each function does, as a predicate over a part of the heap. -/
import Derived.Test.YtfnkdpmbpgffbaaGreatDnY
import Derived.Test.YtfnkdpmbpgffbaaGreatParseD
import Derived.Test.YtfnkdpmbpgffbaaGreatDnZ
import Derived.Test.YtfnkdpmbpgffbaaGreatDnSI
import Derived.Test.YtfnkdpmbpgffbaaGreatDnO
namespace Go.Dn
open Addr (add mk)
open IntKind (wrap)
open Int (toNat)
abbrev qaa_T:=Int->Int->Int->(Sl->AP)->AP
variable (f_qaa:qaa_T)
def qaa_A:qaa_T:=λn o p Q h=>
(aN h (.cells (madeCells #[(.int .u8 0)] (20*1)) 5) λd h=>
∃ i:Int->Nat->AP,(∃ e,i 0 e h)/\∀ b e h,i b e h->
bsel (decide (b<8))
(bsel (decide ((wrap .i64 (8*b))<0)) False
(bB b 20
(aC (add (mk d 0 none) (toNat b*1)) (.int .u8 (wrap .u8 (Int.fdiv n (2 ^ (min (toNat (wrap .i64 (8*b))) 64))))) h λh=>
bsel (decide ((wrap .i64 (8*b))<0)) False
(bB (wrap .i64 (8+b)) 20
(aC (add (mk d 0 none) (toNat (wrap .i64 (8+b))*1)) (.int .u8 (wrap .u8 (Int.fdiv o (2 ^ (min (toNat (wrap .i64 (8*b))) 64))))) h λh=>
∃ l,l<e/\i (wrap .i64 (b+1)) l h)))))
(∃ j:Int->Nat->AP,(∃ g,j 0 g h)/\∀ c g h,j c g h->
bsel (decide (c<4))
(bsel (decide ((wrap .i64 (8*c))<0)) False
(bB (wrap .i64 (16+c)) 20
(aC (add (mk d 0 none) (toNat (wrap .i64 (16+c))*1)) (.int .u8 (wrap .u8 (Int.fdiv p (2 ^ (min (toNat (wrap .i64 (8*c))) 32))))) h λh=>
∃ m,m<g/\j (wrap .i64 (c+1)) m h)))
(Q (Sl.mk (some (mk d 0 none)) 20 20) h)))
def qaa_W (f:qaa_T):aX [.c (.i .u64),.c (.i .u64),.c (.i .u32)] EnR:=λc d e K _Kp=>f c d e (λb=>K (.slice b.a b.len b.cap))
abbrev qab_T:=Int->Int->(Int->Int->Int->Int->Sl->AP)->AP
variable (f_qab:qab_T)
def qab_G:qab_T:=λb c Q h=>
(f_qaa 0 (wrap .u64 ((wrap .u64 b)*4096)) 1 (λd h=>
Q b 0 1 c d h) h)
def qab_A:qab_T:=qab_G qaa_A
def qab_W (f:qab_T):aX [.c (.i .i64),.c (.i .i64)] EnR:=λc d K _Kp=>f c d (λe g i j b=>K (.agg #[(.int .i64 e),(.int .i64 g),(.int .i64 i),(.int .i64 j),(.slice b.a b.len b.cap)]))
abbrev qac_T:=Sl->(Sl->Int->AP)->AP
variable (f_qac:qac_T)
def qac_A:qac_T:=paA 254
def qac_W (f:qac_T):aX [.c .s] EnR:=λc K _Kp=>f c (λb d=>K (.tuple #[.slice b.a b.len b.cap,.int .i64 d]))
abbrev qad_T:=Int->Int->Int->Int->(Int->Int->AP)->AP
variable (f_qad:qad_T)
def qad_A:qad_T:=λb c m e Q h=>
(∃ d:Int->Int->AP,(∀ g l h,d g l h->
∃ i:Int->AP,(∀ j h,i j h->
Q (wrap .i64 (if (wrap .u64 e)<g then (wrap .u64 e) else g)) (wrap .i64 (if (wrap .u64 e)<j then (wrap .u64 e) else j)) h)/\
(bsel (c==0)
(i g h)
(i l h)))/\
(bsel (m==1)
(bsel ((Int.tmod b 4096) != 0)
(d (wrap .u64 ((wrap .u64 (Int.tdiv b 4096))+1)) (wrap .u64 (Int.tdiv (wrap .u64 (b+c)) 4096)) h)
(d (wrap .u64 (Int.tdiv b 4096)) (wrap .u64 (Int.tdiv (wrap .u64 (b+c)) 4096)) h))
(bsel ((Int.tmod (wrap .u64 (b+c)) 4096) != 0)
(d (wrap .u64 (Int.tdiv b 4096)) (wrap .u64 ((wrap .u64 (Int.tdiv (wrap .u64 (b+c)) 4096))+1)) h)
(d (wrap .u64 (Int.tdiv b 4096)) (wrap .u64 (Int.tdiv (wrap .u64 (b+c)) 4096)) h))))
def qad_W (f:qad_T):aX [.agg [(.i .u64),(.i .u64),(.i .u32)],.c (.i .i64)] EnR:=λb c d e K _Kp=>f b c d e (λg i=>K (.agg #[(.int .i64 g),(.int .i64 i)]))
abbrev qae_T:=Sl->(Sl->AP)->AP
variable (f_qae:qae_T)
def qae_A:qae_T:=λb Q h=>
(bsel (Option.isNone b.a)
(Q Sl.nil h)
(aN h (.cells #[] 84) λc h=>
dM 2 16 #[(.int .i64 0),(.int .i64 0)] 84 (Sl.mk (some (mk c 0 none)) 0 0) b h λd h=>
Q d h))
def qae_W (f:qae_T):aX [.c .s] EnR:=λc K _Kp=>f c (λb=>K (.slice b.a b.len b.cap))
abbrev qaf_T:=Int->Int->(Bool->AP)->AP
variable (f_qaf:qaf_T)
def qaf_A:qaf_T:=λb c Q h=>
(Q (decide (c<=b)) h)
def qaf_W (f:qaf_T):aX [.agg [(.i .i64),(.i .i64)]] EnR:=λb c K _Kp=>f b c (λd=>K (.bool d))
abbrev qag_T:=Sl->(Int->AP)->AP
variable (f_qag:qag_T)
def qag_G:qag_T:=λd Q h=>
(∃ e:Int->Nat->AP,(∃ c,e 0 c h)/\∀ b c h,e b c h->
bsel (decide (b<(Int.ofNat d.len)))
(aF d.a λg=>
bB b d.len
(aI .i64 (add g (toNat b*2)) h λj=>
aI .i64 (add (add g (toNat b*2)) 1) h λl=>
f_qaf j l (λm h=>
bsel m
(Q b h)
(∃ i,i<c/\e (wrap .i64 (b+1)) i h)) h))
(Q (-1) h))
def qag_A:qag_T:=qag_G qaf_A
def qag_W (f:qag_T):aX [.c .s,.fn 193 [] []] EnR:=λb K _Kp=>f b (λc=>K (.int .i64 c))
abbrev qah_T:=Sl->(Sl->AP)->AP
variable (f_qah:qah_T)
def qah_G:qah_T:=λb Q h=>
(f_qag b (λg h=>
bsel (g==(-1))
(Q b h)
(∃ i:Int->Int->Nat->AP,(∃ e,i g (wrap .i64 (g+1)) e h)/\∀ c d e h,i c d e h->
bsel (decide (d<(Int.ofNat b.len)))
(∃ j:Int->AP,(∀ m h,j m h->
∃ n,n<e/\i m (wrap .i64 (d+1)) n h)/\
(aF b.a λo=>
bB d b.len
(aI .i64 (add o (toNat d*2)) h λp=>
aI .i64 (add (add o (toNat d*2)) 1) h λq=>
f_qaf p q (λs h=>
bsel (!s)
(aF b.a λr=>
bB c b.len
(aC (add r (toNat c*2)) (.int .i64 p) h λh=>
aC (add (add r (toNat c*2)) 1) (.int .i64 q) h λh=>
j (wrap .i64 (c+1)) h))
(j c h)) h)))
(bB c (b.len+1)
(aG0 #[(.int .i64 0),(.int .i64 0)] (Sl.mk (if b.cap=(toNat c) then b.a else Option.map (λl=>add l ((toNat c)*2)) b.a) (b.len-(toNat c)) (b.cap-(toNat c))) h λh=>
bB c (b.cap+1)
(Q (Sl.mk (if b.cap=0 then b.a else Option.map (λl=>add l (0*2)) b.a) (toNat c) b.cap) h))))) h)
def qah_A:qah_T:=qah_G qaf_A qag_A
def qah_W (f:qah_T):aX [.c .s,.fn 193 [] []] EnR:=λc K _Kp=>f c (λb=>K (.slice b.a b.len b.cap))
abbrev qai_T:=Sl->AP->AP
variable (f_qai:qai_T)
def qai_A:qai_T:=soA rgE (Go.Proofs.ltOf aCS) 2
def qai_W (f:qai_T):aX [.c .s,.fn 195 [] []] EnR:=λb K _Kp=>f b (K (.tuple #[]))
abbrev qaj_T:=Sl->(Sl->AP)->AP
variable (f_qaj:qaj_T)
def qaj_G:qaj_T:=λs Q h=>
(f_qae s (λt h=>
f_qah t (λd h=>
f_qai d (λh=>
∃ g:Sl->Int->Nat->AP,(∃ e,g Sl.nil 0 e h)/\∀ b c e h,g b c e h->
bsel (decide (c<(Int.ofNat d.len)))
(∃ i:Sl->AP,(∀ m h,i m h->
∃ n,n<e/\g m (wrap .i64 (c+1)) n h)/\
(aF d.a λo=>
bB c d.len
(aI .i64 (add o (toNat c*2)) h λp=>
aI .i64 (add (add o (toNat c*2)) 1) h λj=>
∃ l:Bool->AP,(∀ q h,l q h->
bsel q
(aF b.a λu=>
bB (wrap .i64 ((Int.ofNat b.len)-1)) b.len
(aI .i64 (add (add u (toNat (wrap .i64 ((Int.ofNat b.len)-1))*2)) 1) h λr=>
aF b.a λv=>
bB (wrap .i64 ((Int.ofNat b.len)-1)) b.len
(aC (add (add v (toNat (wrap .i64 ((Int.ofNat b.len)-1))*2)) 1) (.int .i64 (if j > r then j else r)) h λh=>
i b h)))
(aN h (.cells #[(.int .i64 p),(.int .i64 j)] 84) λw h=>
dM 2 16 #[(.int .i64 0),(.int .i64 0)] 84 b (Sl.mk (some (mk w 0 none)) 1 1) h λx h=>
i x h))/\
(bsel (decide ((Int.ofNat b.len) > 0))
(aF b.a λy=>
bB (wrap .i64 ((Int.ofNat b.len)-1)) b.len
(aI .i64 (add (add y (toNat (wrap .i64 ((Int.ofNat b.len)-1))*2)) 1) h λz=>
l (decide (p<=z)) h))
(l false h)))))
(Q b h)) h) h) h)
def qaj_A:qaj_T:=qaj_G qae_A qah_A qai_A
def qaj_W (f:qaj_T):aX [.c .s] EnR:=λc K _Kp=>f c (λb=>K (.slice b.a b.len b.cap))
abbrev qak_T:=Sl->Sl->(Sl->AP)->AP
variable (f_qak:qak_T)
def qak_G:qak_T:=λD E Q h=>
(f_qaj E (λl h=>
f_qaj D (λm h=>
∃ n:Sl->Int->Nat->AP,(∃ g,n Sl.nil 0 g h)/\∀ o d g h,n o d g h->
bsel (decide (d<(Int.ofNat m.len)))
(∃ p:Sl->AP,(∀ v h,p v h->
∃ w,w<g/\n v (wrap .i64 (d+1)) w h)/\
(aF m.a λx=>
bB d m.len
(aI .i64 (add x (toNat d*2)) h λF=>
aI .i64 (add (add x (toNat d*2)) 1) h λq=>
∃ r:Sl->Int->Int->Nat->AP,(∃ i,r o F 0 i h)/\∀ c b e i h,r c b e i h->
bsel (decide (e<(Int.ofNat l.len)))
(∃ j:Sl->Int->AP,(∀ y z h,j y z h->
∃ A,A<i/\r y z (wrap .i64 (e+1)) A h)/\
(aF l.a λB=>
bB e l.len
(aI .i64 (add B (toNat e*2)) h λs=>
aI .i64 (add (add B (toNat e*2)) 1) h λt=>
bsel (decide (t<=b))
(j c b h)
(bsel (decide (s>=q))
(j c b h)
(∃ u:Sl->AP,(∀ C h,u C h->
j C (if t > b then t else b) h)/\
(bsel (decide (s > b))
(aN h (.cells #[(.int .i64 b),(.int .i64 s)] 84) λG h=>
dM 2 16 #[(.int .i64 0),(.int .i64 0)] 84 c (Sl.mk (some (mk G 0 none)) 1 1) h λH h=>
u H h)
(u c h)))))))
(bsel (decide (b<q))
(aN h (.cells #[(.int .i64 b),(.int .i64 q)] 84) λI h=>
dM 2 16 #[(.int .i64 0),(.int .i64 0)] 84 c (Sl.mk (some (mk I 0 none)) 1 1) h λJ h=>
p J h)
(p c h)))))
(Q o h)) h) h)
def qak_A:qak_T:=qak_G qaj_A
def qak_W (f:qak_T):aX [.c .s,.c .s] EnR:=λc d K _Kp=>f c d (λb=>K (.slice b.a b.len b.cap))
abbrev qal_T:=Sl->Int->Int->Int->(Sl->Int->AP)->AP
variable (f_qal:qal_T)
def qal_G:qal_T:=λy c i j Q h=>
(∃ p:AH->Prop,(∀ h,p h->
f_qac y (λl q h=>
bsel (q != 0)
(Q Sl.nil q h)
(aN h (.cells #[(.int .i64 i),(.int .i64 j)] 84) λz h=>
∃ m:Sl->Sl->Int->Nat->AP,(∃ d,m Sl.nil (Sl.mk (some (mk z 0 none)) 1 1) 0 d h)/\∀ e g b d h,m e g b d h->
bsel (decide (b<(Int.ofNat l.len)))
(∃ n:Sl->Sl->AP,(∀ r s h,n r s h->
∃ t,t<d/\m r s (wrap .i64 (b+1)) t h)/\
(aF l.a λo=>
bB b l.len
(aI .u64 (add o (toNat b*3)) h λA=>
aI .u64 (add (add o (toNat b*3)) 1) h λB=>
aI .u32 (add (add o (toNat b*3)) 2) h λu=>
f_qad A B u c (λv w h=>
bsel (u==1)
(aN h (.cells #[(.int .i64 v),(.int .i64 w)] 84) λC h=>
dM 2 16 #[(.int .i64 0),(.int .i64 0)] 84 e (Sl.mk (some (mk C 0 none)) 1 1) h λD h=>
n D g h)
(aN h (.cells #[(.int .i64 v),(.int .i64 w)] 84) λE h=>
dM 2 16 #[(.int .i64 0),(.int .i64 0)] 84 g (Sl.mk (some (mk E 0 none)) 1 1) h λF h=>
n e F h)) h)))
(f_qak e g (λx h=>
bsel ((Int.ofNat x.len)==0)
(Q Sl.nil 7 h)
(Q x 0 h)) h))) h)/\
(bsel (decide (c<1))
(Q Sl.nil 1 h)
(bsel (decide (c > 1048576))
(Q Sl.nil 1 h)
(bsel (decide (i<0))
(Q Sl.nil 1 h)
(bsel (decide (j<i))
(Q Sl.nil 1 h)
(bsel (decide (j > c))
(Q Sl.nil 1 h)
(p h)))))))
def qal_A:qal_T:=qal_G qac_A qad_A qak_A
def qal_W (f:qal_T):aX [.c .s,.c (.i .i64),.agg [(.i .i64),(.i .i64)]] EnR:=λc d e g K _Kp=>f c d e g (λb i=>K (.tuple #[(.slice b.a b.len b.cap),(.int .i64 i)]))
abbrev qam_T:=Option Addr->(AH->Prop)->AP
variable (f_qam:qam_T)
def qam_A:qam_T:=λb Q h=>
(aN h (.map #[] 0) λc h=>
aN h (.map #[] 0) λd h=>
aF b λe=>
aC (add e 1) (.int .i64 1) h λh=>
aF b λg=>
aC (add g 3) (.map (some c)) h λh=>
aF b λi=>
aC (add i 4) (.map (some d)) h λh=>
Q h)
def qam_W (f:qam_T):aX [.c .p] EnR:=λb K _Kp=>f b (K (.tuple #[]))
abbrev qan_T:=Int->(Option Addr->Int->AP)->AP
variable (f_qan:qan_T)
def qan_G:qan_T:=λb Q h=>
(bsel (decide (b<1))
(Q none 1 h)
(bsel (decide (b > 4095))
(Q none 1 h)
(aN h (.cells #[(.int .i64 b),(.int .i64 0),(.int .i64 0),(.map none),(.map none)] 258) λc h=>
f_qam (some (mk c 0 none)) (λh=>
Q (some (mk c 0 none)) 0 h) h)))
def qan_A:qan_T:=qan_G qam_A
def qan_W (f:qan_T):aX [.c (.i .i64)] EnR:=λb K _Kp=>f b (λc d=>K (.tuple #[(.pointer c),(.int .i64 d)]))
abbrev qao_T:=Int->Sl->(Option Addr->Int->AP)->AP
variable (f_qao:qao_T)
def qao_A:qao_T:=λd c Q h=>
(bsel (decide (d<1))
(Q none 1 h)
(∃ j:AH->Prop,(∀ h,j h->
∃ g:Int->Nat->AP,(∃ e,g 0 e h)/\∀ b e h,g b e h->
bsel (decide (b<(Int.ofNat c.len)))
(aF c.a λl=>
bB b c.len
(aI .i64 (add l (toNat b*2)) h λm=>
aI .i64 (add (add l (toNat b*2)) 1) h λn=>
bsel (decide (m<0))
(Q none 3 h)
(bsel (decide (n<m))
(Q none 3 h)
(bsel (decide (n > d))
(Q none 3 h)
(∃ o,o<e/\g (wrap .i64 (b+1)) o h)))))
(dM 2 16 #[(.int .i64 0),(.int .i64 0)] 84 Sl.nil c h λi h=>
aN h (.map #[] 0) λp h=>
aN h (.cells #[(.int .i64 d),(.slice i.a i.len i.cap),(.map (some p))] 171) λq h=>
Q (some (mk q 0 none)) 0 h))/\
(bsel (decide (d > 1048576))
(Q none 4 h)
(bsel (decide ((Int.ofNat c.len) > 64))
(Q none 4 h)
(j h)))))
def qao_W (f:qao_T):aX [.c (.i .i64),.c .s] EnR:=λb c K _Kp=>f b c (λd e=>K (.tuple #[(.pointer d),(.int .i64 e)]))
abbrev qap_T:=Option Addr->Int->Int->(AH->Prop)->AP
variable (f_qap:qap_T)
def qap_A:qap_T:=λd l m Q h=>
(∃ g:Int->Int->Nat->AP,(∃ e,g l m e h)/\∀ c b e h,g c b e h->
bsel (decide (b<10))
(aF d λn=>
bB b 11
(aM (add n (toNat b*1)) h λo=>
bsel (decide (b<0)) False
(lG h o .i64 (bits .xor .i64 c (wrap .i64 (1*2 ^ (min (toNat b) 64)))) λp=>
∃ i:Bool,((p.getD (.bool false)):Value)=(.bool i)/\
(bsel i
(aF d λq=>
bB b 11
(aM (add q (toNat b*1)) h λr=>
bsel (decide (b<0)) False
(qW h r .i64 (bits .xor .i64 c (wrap .i64 (1*2 ^ (min (toNat b) 64)))) λh=>
bsel (decide (b<0)) False
(∃ j,j<e/\g (bits .andNot .i64 c (wrap .i64 (1*2 ^ (min (toNat b) 64)))) (wrap .i64 (b+1)) j h))))
(aF d λs=>
bB b 11
(aM (add s (toNat b*1)) h λt=>
mK h t .i64 c (.bool true) λh=>
Q h))))))
(aF d λu=>
bB b 11
(aM (add u (toNat b*1)) h λv=>
mK h v .i64 c (.bool true) λh=>
Q h)))
def qap_W (f:qap_T):aX [.c .p,.c (.i .i64),.c (.i .i64)] EnR:=λb c d K _Kp=>f b c d (K (.tuple #[]))
abbrev qaq_T:=Sl->(Option Addr->Int->AP)->AP
variable (f_qaq:qaq_T)
def qaq_G:qaq_T:=λe Q h=>
(bsel (decide ((Int.ofNat e.len) > 64))
(Q none 4 h)
(∃ s:Int->Int->Nat->AP,(∃ o,s 0 0 o h)/\∀ y i o h,s y i o h->
bsel (decide (i<(Int.ofNat e.len)))
(aF e.a λz=>
bB i e.len
(aI .i64 (add z (toNat i*2)) h λA=>
aI .i64 (add (add z (toNat i*2)) 1) h λt=>
bsel (decide (A<y))
(Q none 3 h)
(bsel (decide (t<=A))
(Q none 3 h)
(bsel (decide (t > 1048576))
(Q none 3 h)
(∃ B,B<o/\s t (wrap .i64 (i+1)) B h)))))
(aN h (.map #[] 0) λH h=>
aN h (.cells #[(.map none),(.map none),(.map none),(.map none),(.map none),(.map none),(.map none),(.map none),(.map none),(.map none),(.map none),(.map (some H)),(.int .i64 0)] 99) λg h=>
∃ u:Int->Nat->AP,(∃ p,u 0 p h)/\∀ m p h,u m p h->
bsel (decide (m<11))
(aN h (.map #[] 0) λI h=>
bB m 11
(aC (add (mk g 0 none) (toNat m*1)) (.map (some I)) h λh=>
∃ C,C<p/\u (wrap .i64 (m+1)) C h))
(∃ v:Int->Nat->AP,(∃ q,v 0 q h)/\∀ j q h,v j q h->
bsel (decide (j<(Int.ofNat e.len)))
(aF e.a λD=>
bB j e.len
(aI .i64 (add D (toNat j*2)) h λE=>
aI .i64 (add (add D (toNat j*2)) 1) h λw=>
∃ n:Int->Nat->AP,(∃ l,n E l h)/\∀ c l h,n c l h->
bsel (decide (c<w))
(∃ x:Int->Nat->AP,(∃ r,x 0 r h)/\∀ b r h,x b r h->
bsel (decide (b<10))
(bsel (decide (b<0)) False
(bsel ((bits .and .i64 c (wrap .i64 (1*2 ^ (min (toNat b) 64))))==0)
(bsel (decide (b<0)) False
(bsel (decide ((wrap .i64 (c+(wrap .i64 (2*2 ^ (min (toNat b) 64)))))<=w))
(∃ F,F<r/\x (wrap .i64 (b+1)) F h)
(f_qap (some (mk g 0 none)) c b (λh=>
bsel (decide (b<0)) False
(∃ d,d<l/\n (wrap .i64 (c+(wrap .i64 (1*2 ^ (min (toNat b) 64))))) d h)) h)))
(f_qap (some (mk g 0 none)) c b (λh=>
bsel (decide (b<0)) False
(∃ d,d<l/\n (wrap .i64 (c+(wrap .i64 (1*2 ^ (min (toNat b) 64))))) d h)) h)))
(f_qap (some (mk g 0 none)) c b (λh=>
bsel (decide (b<0)) False
(∃ d,d<l/\n (wrap .i64 (c+(wrap .i64 (1*2 ^ (min (toNat b) 64))))) d h)) h))
(aI .i64 (add (mk g 0 none) 12) h λJ=>
aC (add (mk g 0 none) 12) (.int .i64 (wrap .i64 (J+(wrap .i64 (w-E))))) h λh=>
∃ G,G<q/\v (wrap .i64 (j+1)) G h)))
(Q (some (mk g 0 none)) 0 h)))))
def qaq_A:qaq_T:=qaq_G qap_A
def qaq_W (f:qaq_T):aX [.c .s] EnR:=λb K _Kp=>f b (λc d=>K (.tuple #[(.pointer c),(.int .i64 d)]))
abbrev qar_T:=Option Addr->(Int->AP)->AP
variable (f_qar:qar_T)
def qar_A:qar_T:=λb Q h=>
(aF b λc=>
aI .i64 (add c 12) h λd=>
Q d h)
def qar_W (f:qar_T):aX [.c .p] EnR:=λb K _Kp=>f b (λc=>K (.int .i64 c))
abbrev qas_T:=Int->(Option Addr->Int->AP)->AP
variable (f_qas:qas_T)
def qas_A:qas_T:=λb Q h=>
(bsel (decide (b<0))
(Q none 1 h)
(bsel (decide (b > 1048576))
(Q none 1 h)
(aN h (.cells #[(.int .i64 (-1)),(.int .i64 b),(.int .i64 0),(.int .i64 0),(.bool true)] 219) λc h=>
aN h (.cells #[(.slice (some (mk c 0 none)) 1 1)] 221) λd h=>
Q (some (mk d 0 none)) 0 h)))
def qas_W (f:qas_T):aX [.c (.i .i64)] EnR:=λb K _Kp=>f b (λc d=>K (.tuple #[(.pointer c),(.int .i64 d)]))
abbrev qat_T:=Option Addr->Int->(Option Addr->Option Addr->Option Addr->Int->AP)->AP
variable (f_qat:qat_T)
def qat_A:qat_T:=λb c Q h=>
(aF b λd=>
aP d h λe=>
aF b λg=>
aP (add g 1) h λi=>
aF b λj=>
aP (add j 2) h λl=>
Q e i l c h)
def qat_W (f:qat_T):aX [.c .p,.c (.i .i64)] EnR:=λb c K _Kp=>f b c (λd e g i=>K (.agg #[(.pointer d),(.pointer e),(.pointer g),(.int .i64 i)]))
abbrev qau_T:=Option Addr->Int->(Option Addr->Bool->AP)->AP
variable (f_qau:qau_T)
def qau_A:qau_T:=λc b Q h=>
(bsel (decide (b<0))
(Q none false h)
(aF c λg=>
aS g h λi=>
bsel (decide (b>=(Int.ofNat i.len)))
(Q none false h)
(aF c λj=>
aS j h λd=>
aF d.a λl=>
bB b d.len
(aB (add (add l (toNat b*5)) 4) h λm=>
bsel (!m)
(Q none false h)
(aF c λn=>
aS n h λe=>
aF e.a λo=>
bB b e.len
(Q (some (add o (toNat b*5))) true h))))))
def qau_W (f:qau_T):aX [.c .p,.c (.i .i64)] EnR:=λb c K _Kp=>f b c (λd e=>K (.tuple #[(.pointer d),(.bool e)]))
abbrev qav_T:=Option Addr->Int->(Int->AP)->AP
variable (f_qav:qav_T)
def qav_G:qav_T:=λc d Q h=>
(f_qau c d (λb e h=>
bsel (!e)
(Q 0 h)
(aF b λg=>
aI .i64 (add g 1) h λi=>
aF b λj=>
aI .i64 (add j 2) h λl=>
aF b λm=>
aI .i64 (add m 3) h λn=>
Q (wrap .i64 ((wrap .i64 (i-l))-n)) h)) h)
def qav_A:qav_T:=qav_G qau_A
def qav_W (f:qav_T):aX [.c .p,.c (.i .i64)] EnR:=λb c K _Kp=>f b c (λd=>K (.int .i64 d))
abbrev qaw_T:=Option Addr->Int->Int->(Int->AP)->AP
variable (f_qaw:qaw_T)
def qaw_G:qaw_T:=λc d b Q h=>
(f_qau c d (λe g h=>
bsel (!g)
(Q 5 h)
(bsel (decide (b<0))
(Q 1 h)
(f_qav c d (λi h=>
bsel (decide (b > i))
(Q 8 h)
(aF e λj=>
aI .i64 (add j 2) h λl=>
aF e λm=>
aC (add m 2) (.int .i64 (wrap .i64 (l+b))) h λh=>
Q 0 h)) h))) h)
def qaw_A:qaw_T:=qaw_G qau_A qav_A
def qaw_W (f:qaw_T):aX [.c .p,.c (.i .i64),.c (.i .i64)] EnR:=λb c d K _Kp=>f b c d (λe=>K (.int .i64 e))
abbrev qax_T:=Option Nat->(Option Addr->AP)->AP
variable (f_qax:qax_T)
def qax_A:qax_T:=λb Q h=>
(aN h (.cells #[(.map b)] 96) λc h=>
Q (some (mk c 0 none)) h)
def qax_W (f:qax_T):aX [.c .m] EnR:=λb K _Kp=>f b (λc=>K (.func (.func 188) #[] #[(.pointer c)]))
abbrev qay_T:=Option Addr->(Sl->AP)->AP
variable (f_qay:qay_T)
def qay_A:qay_T:=clA 3
def qay_W (f:qay_T):aX [.fn 188 [] [.p]] EnR:=λc K _Kp=>f c (λb=>K (.slice b.a b.len b.cap))
abbrev qaz_T:=Sl->(Int->AP)->AP
variable (f_qaz:qaz_T)
def qaz_A:qaz_T:=λb Q h=>
(∃ i:AH->Prop,(∀ h,i h->
aF b.a λm=>
bB 0 b.len
(aI .i64 m h λn=>
∃ g:Int->Int->Nat->AP,(∃ d,g n 1 d h)/\∀ e c d h,g e c d h->
bsel (decide (c<(Int.ofNat b.len)))
(aF b.a λo=>
bB c b.len
(aI .i64 (add o (toNat c*1)) h λj=>
∃ l,l<d/\g (if j<e then j else e) (wrap .i64 (c+1)) l h))
(Q e h)))/\
(bsel (decide ((Int.ofNat b.len)<1))
False
(i h)))
def qaz_W (f:qaz_T):aX [.c .s] EnR:=λb K _Kp=>f b (λc=>K (.int .i64 c))
abbrev qba_T:=Option Addr->Int->(Int->Int->AP)->AP
variable (f_qba:qba_T)
def qba_G:qba_T:=λb c Q h=>
(∃ p:AH->Prop,(∀ h,p h->
∃ m:Int->AP,(∀ d h,m d h->
bsel (decide (d > 10))
(Q 0 7 h)
(aF b λs=>
bB d 11
(aM (add s (toNat d*1)) h λt=>
f_qax t (λu h=>
f_qay u (λv h=>
f_qaz v (λi h=>
aF b λw=>
bB d 11
(aM (add w (toNat d*1)) h λx=>
qW h x .i64 i λh=>
∃ n:Int->Nat->AP,(∃ j,n d j h)/\∀ e j h,n e j h->
bsel (decide (e > c))
(aF b λy=>
bB (wrap .i64 (e-1)) 11
(aM (add y (toNat (wrap .i64 (e-1))*1)) h λz=>
bsel (decide ((wrap .i64 (e-1))<0)) False
(mK h z .i64 (wrap .i64 (i+(wrap .i64 (1*2 ^ (min (toNat (wrap .i64 (e-1))) 64))))) (.bool true) λh=>
∃ q,q<j/\n (wrap .i64 (e-1)) q h)))
(aF b λA=>
aM (add A 11) h λB=>
mK h B .i64 i (.int .i64 c) λh=>
aF b λC=>
aI .i64 (add C 12) h λD=>
bsel (decide (c<0)) False
(aF b λE=>
aC (add E 12) (.int .i64 (wrap .i64 (D-(wrap .i64 (1*2 ^ (min (toNat c) 64)))))) h λh=>
Q i 0 h)))) h) h) h)))/\
(∃ o:Int->Nat->AP,(∃ l,o c l h)/\∀ g l h,o g l h->
bsel (decide (g<=10))
(aF b λF=>
bB g 11
(aM (add F (toNat g*1)) h λG=>
aIz h G λH=>
bsel (H==0)
(∃ r,r<l/\o (wrap .i64 (g+1)) r h)
(m g h)))
(m g h)))/\
(bsel (decide (c<0))
(Q 0 1 h)
(bsel (decide (c > 10))
(Q 0 1 h)
(p h))))
def qba_A:qba_T:=qba_G qax_A qay_A qaz_A
def qba_W (f:qba_T):aX [.c .p,.c (.i .i64)] EnR:=λb c K _Kp=>f b c (λd e=>K (.tuple #[(.int .i64 d),(.int .i64 e)]))
abbrev qbb_T:=Option Addr->Int->(Bool->AP)->AP
variable (f_qbb:qbb_T)
def qbb_A:qbb_T:=λj e Q h=>
(bsel (decide (e<0))
(Q false h)
(aF j λm=>
aI .i64 m h λn=>
bsel (decide (e>=n))
(Q false h)
(aF j λo=>
aS (add o 1) h λi=>
∃ g:Int->Nat->AP,(∃ c,g 0 c h)/\∀ b c h,g b c h->
bsel (decide (b<(Int.ofNat i.len)))
(aF i.a λl=>
bB b i.len
(aI .i64 (add l (toNat b*2)) h λp=>
aI .i64 (add (add l (toNat b*2)) 1) h λq=>
bsel (decide (e>=p))
(bsel (decide (e<q))
(Q false h)
(∃ d,d<c/\g (wrap .i64 (b+1)) d h))
(∃ d,d<c/\g (wrap .i64 (b+1)) d h)))
(Q true h))))
def qbb_W (f:qbb_T):aX [.c .p,.c (.i .i64)] EnR:=λb c K _Kp=>f b c (λd=>K (.bool d))
abbrev qbc_T:=Option Addr->Int->(Int->AP)->AP
variable (f_qbc:qbc_T)
def qbc_G:qbc_T:=λb c Q h=>
(f_qbb b c (λd h=>
bsel (!d)
(Q 2 h)
(aF b λe=>
aM (add e 2) h λg=>
qW h g .i64 c λh=>
Q 0 h)) h)
def qbc_A:qbc_T:=qbc_G qbb_A
def qbc_W (f:qbc_T):aX [.c .p,.c (.i .i64)] EnR:=λb c K _Kp=>f b c (λd=>K (.int .i64 d))
abbrev qbd_T:=Option Addr->Int->(Int->AP)->AP
variable (f_qbd:qbd_T)
def qbd_G:qbd_T:=λb d Q h=>
(aF b λg=>
aM (add g 11) h λi=>
lG h i .i64 d λe=>
∃ c:Int,((e.getD (.int .i64 0)):Value)=(.int .i64 c)/\
(bsel (!e.isSome)
(Q 5 h)
(aF b λj=>
aM (add j 11) h λl=>
qW h l .i64 d λh=>
aF b λm=>
aI .i64 (add m 12) h λn=>
bsel (decide (c<0)) False
(aF b λo=>
aC (add o 12) (.int .i64 (wrap .i64 (n+(wrap .i64 (1*2 ^ (min (toNat c) 64)))))) h λh=>
f_qap b d c (λh=>
Q 0 h) h))))
def qbd_A:qbd_T:=qbd_G qap_A
def qbd_W (f:qbd_T):aX [.c .p,.c (.i .i64)] EnR:=λb c K _Kp=>f b c (λd=>K (.int .i64 d))
abbrev qbe_T:=Option Addr->Int->Int->(Int->AP)->AP
variable (f_qbe:qbe_T)
def qbe_G:qbe_T:=λd e b Q h=>
(f_qau d e (λc g h=>
bsel (!g)
(Q 5 h)
(bsel (decide (b<0))
(Q 1 h)
(aF c λi=>
aI .i64 (add i 2) h λj=>
bsel (decide (b > j))
(Q 1 h)
(aF c λl=>
aI .i64 (add l 2) h λm=>
aF c λn=>
aC (add n 2) (.int .i64 (wrap .i64 (m-b))) h λh=>
Q 0 h)))) h)
def qbe_A:qbe_T:=qbe_G qau_A
def qbe_W (f:qbe_T):aX [.c .p,.c (.i .i64),.c (.i .i64)] EnR:=λb c d K _Kp=>f b c d (λe=>K (.int .i64 e))
abbrev qbf_T:=Option Addr->Option Addr->Option Addr->Int->(Int->Int->AP)->AP
variable (f_qbf:qbf_T)
def qbf_G:qbf_T:=λn d e g Q h=>
(f_qaw e g 1 (λi h=>
bsel (i != 0)
(Q 0 i h)
(f_qba d 0 (λb j h=>
∃ c:Int->AP,(∀ l h,c l h->
f_qbe e g 1 (λ_ h=>
Q 0 l h) h)/\
(bsel (j==0)
(f_qbc n b (λm h=>
bsel (m==0)
(Q b 0 h)
(f_qbd d b (λ_ h=>
c m h) h)) h)
(c j h))) h)) h)
def qbf_A:qbf_T:=qbf_G qaw_A qba_A qbc_A qbd_A qbe_A
def qbf_W (f:qbf_T):aX [.agg [.p,.p,.p,(.i .i64)]] EnR:=λb c d e K _Kp=>f b c d e (λg i=>K (.tuple #[(.int .i64 g),(.int .i64 i)]))
abbrev qbg_T:=Option Addr->(Int->AP)->AP
variable (f_qbg:qbg_T)
def qbg_A:qbg_T:=λb Q h=>
(aF b λc=>
aI .i64 c h λd=>
Q d h)
def qbg_W (f:qbg_T):aX [.c .p] EnR:=λb K _Kp=>f b (λc=>K (.int .i64 c))
abbrev qbh_T:=Option Addr->Option Addr->Option Addr->Int->Int->(AH->Prop)->AP
variable (f_qbh:qbh_T)
def qbh_G:qbh_T:=λ_p0 b c d e Q h=>
(f_qbd b e (λ_ h=>
f_qbe c d 1 (λ_ h=>
Q h) h) h)
def qbh_A:qbh_T:=qbh_G qbd_A qbe_A
def qbh_W (f:qbh_T):aX [.agg [.p,.p,.p,(.i .i64)],.c (.i .i64)] EnR:=λb c d e g K _Kp=>f b c d e g (K (.tuple #[]))
abbrev qbi_T:=Option Addr->(Option Addr->Option Addr->Option Addr->Option Addr->Option Addr->Option Addr->Option Addr->Option Addr->AP)->AP
variable (f_qbi:qbi_T)
def qbi_A:qbi_T:=λb Q h=>
(aF b λc=>
aF b λd=>
aF b λe=>
aF b λg=>
aF b λi=>
aF b λj=>
aF b λl=>
aF b λm=>
Q ((some c):Option Addr) ((some (add d 1)):Option Addr) ((some (add e 2)):Option Addr) ((some (add g 3)):Option Addr) ((some (add i 4)):Option Addr) ((some (add j 5)):Option Addr) ((some (add l 6)):Option Addr) ((some (add m 7)):Option Addr) h)
def qbi_W (f:qbi_T):aX [.c .p] EnR:=λb K _Kp=>f b (λc d e g i j l m=>K (.agg #[(.pointer c),(.pointer d),(.pointer e),(.pointer g),(.pointer i),(.pointer j),(.pointer l),(.pointer m)]))
abbrev qbj_T:=(Int->Int->Int->Int->Int->Int->Int->Int->AP)->AP
variable (f_qbj:qbj_T)
def qbj_A:qbj_T:=λQ h=>
(Q 0 1 2 5 6 7 8 63 h)
def qbj_W (f:qbj_T):aX [] EnR:=fun  K _Kp=>f  (λb c d e g i j l=>K (.agg #[(.int .i64 b),(.int .i64 c),(.int .i64 d),(.int .i64 e),(.int .i64 g),(.int .i64 i),(.int .i64 j),(.int .i64 l)]))
abbrev qbk_T:=Bool->Bool->Bool->Bool->Bool->Bool->Bool->Bool->Int->(Int->Int->AP)->AP
variable (f_qbk:qbk_T)
def qbk_G:qbk_T:=λo p q r s t u v w Q h=>
(aN h (.cells #[(.bool o),(.bool p),(.bool q),(.bool r),(.bool s),(.bool t),(.bool u),(.bool v),(.int .i64 w)] 148) λc h=>
∃ j:AH->Prop,(∀ h,j h->
aI .i64 (add (mk c 0 none) 8) h λx=>
f_qbi (some (mk c 0 none)) (λy z A B C D E F h=>
∃ g:Int->Int->Nat->AP,(∃ d,g (wrap .u64 ((wrap .u64 x)*2 ^ (12:Nat))) 0 d h)/\∀ e b d h,g e b d h->
bsel (decide (b<8))
(∃ i:Int->AP,(∀ l h,i l h->
∃ m,m<d/\g l (wrap .i64 (b+1)) m h)/\
(bB b 8
(geP [(.pointer y),(.pointer z),(.pointer A),(.pointer B),(.pointer C),(.pointer D),(.pointer E),(.pointer F)] (toNat b) λG=>
aF G λH=>
aB H h λI=>
bsel I
(f_qbj (λJ L M N O P R S h=>
bB b 8
(geI .i64 [(.int .i64 J),(.int .i64 L),(.int .i64 M),(.int .i64 N),(.int .i64 O),(.int .i64 P),(.int .i64 R),(.int .i64 S)] (toNat b) λn=>
bsel (decide (n<0)) False
(i (bits .or .u64 e (wrap .u64 (1*2 ^ (min (toNat n) 64)))) h))) h)
(i e h))))
(Q e 0 h)) h)/\
(aI .i64 (add (mk c 0 none) 8) h λT=>
bsel (decide (T<0))
(Q 0 1 h)
(aI .i64 (add (mk c 0 none) 8) h λU=>
bsel (decide (U>=1048576))
(Q 0 1 h)
(j h))))
def qbk_A:qbk_T:=qbk_G qbi_A qbj_A
def qbk_W (f:qbk_T):aX [.agg [.b,.b,.b,.b,.b,.b,.b,.b,(.i .i64)]] EnR:=λb c d e g i j l m K _Kp=>f b c d e g i j l m (λn o=>K (.tuple #[(.int .u64 n),(.int .i64 o)]))
abbrev qbl_T:=Int->Int->(Int->AP)->AP
variable (f_qbl:qbl_T)
def qbl_A:qbl_T:=λb c Q h=>
(Q (wrap .u64 ((wrap .u64 ((wrap .u64 b)*4096))+(wrap .u64 (wrap .i64 (8*c))))) h)
def qbl_W (f:qbl_T):aX [.c (.i .i64),.c (.i .i64)] EnR:=λb c K _Kp=>f b c (λd=>K (.int .u64 d))
abbrev qbm_T:=Option Addr->Int->Int->(Int->AP)->AP
variable (f_qbm:qbm_T)
def qbm_G:qbm_T:=λe c b Q h=>
(∃ d:Bool->AP,(∀ g h,d g h->
bsel g
(bsel (decide ((wrap .u64 ((wrap .u64 (c+(wrap .u64 b)))-1))<c))
(Q 2 h)
(aF e λi=>
aI .i64 i h λj=>
bsel (decide ((wrap .u64 (Int.tdiv (wrap .u64 ((wrap .u64 (c+(wrap .u64 b)))-1)) 4096))>=(wrap .u64 j)))
(Q 2 h)
(f_qbb e (wrap .i64 (wrap .u64 (Int.tdiv c 4096))) (λl h=>
bsel (!l)
(Q 2 h)
(f_qbb e (wrap .i64 (wrap .u64 (Int.tdiv (wrap .u64 ((wrap .u64 (c+(wrap .u64 b)))-1)) 4096))) (λm h=>
bsel (!m)
(Q 2 h)
(Q 0 h)) h)) h)))
(Q 1 h))/\
(bsel (b==1)
(d (b==1) h)
(bsel (b==2)
(d (b==2) h)
(bsel (b==4)
(d (b==4) h)
(d (b==8) h)))))
def qbm_A:qbm_T:=qbm_G qbb_A
def qbm_W (f:qbm_T):aX [.c .p,.c (.i .u64),.c (.i .i64)] EnR:=λb c d K _Kp=>f b c d (λe=>K (.int .i64 e))
abbrev qbn_T:=Option Addr->Int->(Option Addr->AP)->AP
variable (f_qbn:qbn_T)
def qbn_A:qbn_T:=λd e Q h=>
(aF d λj=>
aM (add j 2) h λl=>
lG h l .i64 e λm=>
∃ b:Option Addr,((m.getD (.pointer none)):Value)=(.pointer b)/\
(∃ c:Option Addr->AP,(∀ g h,c g h->
Q g h)/\
(bsel b.isNone
(aN h (.cells (Array.replicate 4096 (.int .u8 0)) 172) λi h=>
aF d λn=>
aM (add n 2) h λo=>
mK h o .i64 e (.pointer (some (mk i 0 none))) λh=>
c (some (mk i 0 none)) h)
(c b h))))
def qbn_W (f:qbn_T):aX [.c .p,.c (.i .i64)] EnR:=λb c K _Kp=>f b c (λd=>K (.pointer d))
abbrev qbo_T:=Option Addr->Int->Int->Int->(Int->AP)->AP
variable (f_qbo:qbo_T)
def qbo_G:qbo_T:=λg c i m Q h=>
(f_qbm g c i (λj h=>
bsel (j != 0)
(Q j h)
(∃ e:Int->Nat->AP,(∃ d,e 0 d h)/\∀ b d h,e b d h->
bsel (decide (b<i))
(bsel (decide ((wrap .i64 (8*b))<0)) False
(f_qbn g (wrap .i64 (wrap .u64 (Int.tdiv (wrap .u64 (c+(wrap .u64 b))) 4096))) (λn h=>
aF n λo=>
bB (Int.tmod (wrap .u64 (c+(wrap .u64 b))) 4096) 4096
(aC (add o (toNat (Int.tmod (wrap .u64 (c+(wrap .u64 b))) 4096)*1)) (.int .u8 (wrap .u8 (Int.fdiv m (2 ^ (min (toNat (wrap .i64 (8*b))) 64))))) h λh=>
∃ l,l<d/\e (wrap .i64 (b+1)) l h)) h))
(Q 0 h))) h)
def qbo_A:qbo_T:=qbo_G qbm_A qbn_A
def qbo_W (f:qbo_T):aX [.c .p,.c (.i .u64),.c (.i .i64),.c (.i .u64)] EnR:=λb c d e K _Kp=>f b c d e (λg=>K (.int .i64 g))
abbrev qbp_T:=Option Addr->Option Addr->Option Addr->Int->Int->Int->Bool->Bool->Bool->Bool->Bool->Bool->Bool->Bool->Int->(AH->Prop)->AP
variable (f_qbp:qbp_T)
def qbp_G:qbp_T:=λb _p1 _p2 _p3 c d e g i j l m n o p Q h=>
(f_qbk e g i j l m n o p (λq _ h=>
f_qbl c d (λr h=>
f_qbo b r 8 q (λ_ h=>
Q h) h) h) h)
def qbp_A:qbp_T:=qbp_G qbk_A qbl_A qbo_A
def qbp_W (f:qbp_T):aX [.agg [.p,.p,.p,(.i .i64)],.c (.i .i64),.c (.i .i64),.agg [.b,.b,.b,.b,.b,.b,.b,.b,(.i .i64)]] EnR:=λb c d e g i j l m n o p q r s K _Kp=>f b c d e g i j l m n o p q r s (K (.tuple #[]))
abbrev qbq_T:=Option Addr->Option Addr->Option Addr->Int->(Int->Int->AP)->AP
variable (f_qbq:qbq_T)
def qbq_G:qbq_T:=λb e g i Q h=>
(f_qbf b e g i (λr v h=>
bsel (v != 0)
(Q 0 v h)
(aN h (.cells #[(.int .i64 r)] 3) λA h=>
∃ o:Sl->Int->Nat->AP,(∃ j,o (Sl.mk (some (mk A 0 none)) 1 1) 0 j h)/\∀ l c j h,o l c j h->
f_qbg b (λB h=>
bsel (decide (c<B))
(f_qbf b e g i (λs w h=>
bsel (w != 0)
(∃ t:Int->Nat->AP,(∃ p,t 0 p h)/\∀ m p h,t m p h->
bsel (decide (m<(Int.ofNat l.len)))
(aF l.a λC=>
bB m l.len
(aI .i64 (add C (toNat m*1)) h λD=>
f_qbh b e g i D (λh=>
∃ x,x<p/\t (wrap .i64 (m+1)) x h) h))
(Q 0 w h))
(aN h (.cells #[(.int .i64 s)] 3) λE h=>
dM 1 8 #[(.int .i64 0)] 3 l (Sl.mk (some (mk E 0 none)) 1 1) h λy h=>
f_qbp b e g i r (Int.fdiv c (2 ^ (18:Nat))) true true false false false false false false s (λh=>
∃ u:Int->Nat->AP,(∃ q,u 0 q h)/\∀ d q h,u d q h->
bsel (decide (d<512))
(f_qbg b (λF h=>
bsel (decide ((wrap .i64 (c+(wrap .i64 (d*2 ^ (9:Nat)))))<F))
(f_qbp b e g i s d true true false false false true true true (wrap .i64 (c+(wrap .i64 (d*2 ^ (9:Nat))))) (λh=>
∃ z,z<q/\u (wrap .i64 (d+1)) z h) h)
(∃ n,n<j/\o y (wrap .i64 (c+262144)) n h)) h)
(∃ n,n<j/\o y (wrap .i64 (c+262144)) n h)) h)) h)
(Q r 0 h)) h)) h)
def qbq_A:qbq_T:=qbq_G qbf_A qbg_A qbh_A qbp_A
def qbq_W (f:qbq_T):aX [.agg [.p,.p,.p,(.i .i64)]] EnR:=λb c d e K _Kp=>f b c d e (λg i=>K (.tuple #[(.int .i64 g),(.int .i64 i)]))
abbrev qbr_T:=Int->Int->Int->Int->Sl->(Option Addr->Int->AP)->AP
variable (f_qbr:qbr_T)
def qbr_G:qbr_T:=λc j l m n Q h=>
(f_qal n c j l (λo d h=>
bsel (d != 0)
(Q none d h)
(f_qan m (λp e h=>
bsel (e != 0)
(Q none e h)
(aN h (.cells #[(.bool false),(.int .i64 0),(.int .i64 0),(.int .i64 0),(.bool false),(.bool false),(.bool false),(.bool false),(.bool false),(.bool false),(.int .i64 0),(.int .i64 0),(.int .i64 0),(.bool false),(.bool false),(.bool false),(.bool false),(.bool false),(.bool false),(.int .i64 0),(.int .i64 0),(.int .i64 0),(.bool false),(.bool false),(.bool false),(.bool false),(.bool false),(.bool false),(.int .i64 0),(.int .i64 0),(.int .i64 0),(.bool false),(.bool false),(.bool false),(.bool false),(.bool false),(.bool false),(.int .i64 0),(.int .i64 0),(.int .i64 0),(.bool false),(.bool false),(.bool false),(.bool false),(.bool false),(.bool false),(.int .i64 0),(.int .i64 0),(.int .i64 0),(.bool false),(.bool false),(.bool false),(.bool false),(.bool false),(.bool false),(.int .i64 0),(.int .i64 0),(.int .i64 0),(.bool false),(.bool false),(.bool false),(.bool false),(.bool false),(.bool false),(.int .i64 0),(.int .i64 0),(.int .i64 0),(.bool false),(.bool false),(.bool false),(.bool false),(.bool false),(.bool false),(.int .i64 0),(.int .i64 0),(.int .i64 0),(.bool false),(.bool false),(.bool false),(.bool false),(.bool false),(.bool false),(.int .i64 0),(.int .i64 0),(.int .i64 0),(.bool false),(.bool false),(.bool false),(.bool false),(.bool false),(.bool false),(.int .i64 0),(.int .i64 0),(.int .i64 0),(.bool false),(.bool false),(.bool false),(.bool false),(.bool false),(.bool false),(.int .i64 0),(.int .i64 0),(.int .i64 0),(.bool false),(.bool false),(.bool false),(.bool false),(.bool false),(.bool false),(.int .i64 0),(.int .i64 0),(.int .i64 0),(.bool false),(.bool false),(.bool false),(.bool false),(.bool false),(.bool false),(.int .i64 0),(.int .i64 0),(.int .i64 0),(.bool false),(.bool false),(.bool false),(.bool false),(.bool false),(.bool false),(.int .i64 0),(.int .i64 0),(.int .i64 0),(.bool false),(.bool false),(.bool false),(.bool false),(.bool false),(.bool false),(.int .i64 0),(.int .i64 0),(.int .i64 0),(.bool false),(.bool false),(.bool false),(.bool false),(.bool false)] 182) λq h=>
aN h (.map #[] 0) λr h=>
aN h (.cells #[(.pointer none),(.pointer none),(.pointer none),(.pointer (some (mk q 0 none))),(.pointer p),(.int .i64 0),(.map (some r))] 41) λb h=>
f_qao c Sl.nil (λs _ h=>
aC (mk b 0 none) (.pointer s) h λh=>
f_qaq o (λt g h=>
aC (add (mk b 0 none) 1) (.pointer t) h λh=>
bsel (g != 0)
(Q none g h)
(aP (add (mk b 0 none) 1) h λu=>
f_qar u (λv h=>
f_qas v (λw _ h=>
aC (add (mk b 0 none) 2) (.pointer w) h λh=>
f_qat (some (mk b 0 none)) 0 (λx y z A h=>
f_qbq x y z A (λB i h=>
aC (add (mk b 0 none) 5) (.int .i64 B) h λh=>
bsel (i != 0)
(Q none i h)
(Q (some (mk b 0 none)) 0 h)) h) h) h) h)) h) h)) h)) h)
def qbr_A:qbr_T:=qbr_G qal_A qan_A qao_A qaq_A qar_A qas_A qat_A qbq_A
def qbr_W (f:qbr_T):aX [.agg [(.i .i64),(.i .i64),(.i .i64),(.i .i64),.s]] EnR:=λb c d e g K _Kp=>f b c d e g (λi j=>K (.tuple #[(.pointer i),(.int .i64 j)]))
abbrev qbs_T:=Int->Int->(Option Addr->Sl->Sl->Int->Bool->AP)->AP
variable (f_qbs:qbs_T)
def qbs_G:qbs_T:=λc e Q h=>
(f_qab c e (λg i j l m h=>
f_qbr g i j l m (λb n h=>
aN h (.cells #[(.int .i64 0),(.int .i64 (-1)),(.int .i64 (wrap .i64 (c-1))),(.int .i64 2)] 90) λd h=>
bsel (n==0)
(Q b (Sl.mk (none:Option Addr) (0:Nat) (0:Nat)) (Sl.mk ((some (mk d 0 none)):Option Addr) (1:Nat) (1:Nat)) 0 (!b.isNone) h)
(Q b (Sl.mk (none:Option Addr) (0:Nat) (0:Nat)) (Sl.mk ((some (mk d 0 none)):Option Addr) (1:Nat) (1:Nat)) 0 false h)) h) h)
def qbs_A:qbs_T:=qbs_G qab_A qbr_A
def qbs_W (f:qbs_T):aX [.c (.i .i64),.c (.i .i64)] EnR:=λd e K _Kp=>f d e (λg b c i j=>K (.tuple #[(.pointer g),(.agg #[(.slice b.a b.len b.cap),(.slice c.a c.len c.cap),(.int .i64 i)]),(.bool j)]))
abbrev qbt_T:=Option Nat->(Option Addr->AP)->AP
variable (f_qbt:qbt_T)
def qbt_A:qbt_T:=λb Q h=>
(aN h (.cells #[(.map b)] 39) λc h=>
Q (some (mk c 0 none)) h)
def qbt_W (f:qbt_T):aX [.c .m] EnR:=λb K _Kp=>f b (λc=>K (.func (.func 74) #[] #[(.pointer c)]))
abbrev qbu_T:=Option Addr->(Sl->AP)->AP
variable (f_qbu:qbu_T)
def qbu_A:qbu_T:=clA 3
def qbu_W (f:qbu_T):aX [.fn 74 [] [.p]] EnR:=λc K _Kp=>f c (λb=>K (.slice b.a b.len b.cap))
abbrev qbv_T:=Sl->AP->AP
variable (f_qbv:qbv_T)
def qbv_A:qbv_T:=soI
def qbv_W (f:qbv_T):aX [.c .s] EnR:=λb K _Kp=>f b (K (.tuple #[]))
abbrev qbw_T:=Option Addr->(Sl->AP)->AP
variable (f_qbw:qbw_T)
def qbw_G:qbw_T:=λc Q h=>
(f_qbu c (λb h=>
f_qbv b (λh=>
Q b h) h) h)
def qbw_A:qbw_T:=qbw_G qbu_A qbv_A
def qbw_W (f:qbw_T):aX [.fn 74 [] [.p]] EnR:=λc K _Kp=>f c (λb=>K (.slice b.a b.len b.cap))
abbrev qbx_T:=Option Addr->(Sl->AP)->AP
variable (f_qbx:qbx_T)
def qbx_G:qbx_T:=λb Q h=>
(aF b λc=>
aM (add c 6) h λd=>
f_qbt d (λe h=>
f_qbw e (λg h=>
Q g h) h) h)
def qbx_A:qbx_T:=qbx_G qbt_A qbw_A
def qbx_W (f:qbx_T):aX [.c .p] EnR:=λc K _Kp=>f c (λb=>K (.slice b.a b.len b.cap))
abbrev qby_T:=Option Addr->Option Addr->Option Addr->Int->Int->(Int->Int->AP)->AP
variable (f_qby:qby_T)
def qby_G:qby_T:=λb c d e j Q h=>
(f_qbf b c d e (λg i h=>
bsel (i != 0)
(Q 0 i h)
(f_qbp b c d e g 256 true true false false false false false false j (λh=>
Q g 0 h) h)) h)
def qby_A:qby_T:=qby_G qbf_A qbp_A
def qby_W (f:qby_T):aX [.agg [.p,.p,.p,(.i .i64)],.c (.i .i64)] EnR:=λb c d e g K _Kp=>f b c d e g (λi j=>K (.tuple #[(.int .i64 i),(.int .i64 j)]))
abbrev qbz_T:=Option Addr->Int->Int->(Int->AP)->AP
variable (f_qbz:qbz_T)
def qbz_G:qbz_T:=λb c d Q h=>
(bsel (decide (c<0))
(Q 1 h)
(aF b λl=>
aM (add l 6) h λm=>
lG h m .i64 c λn=>
∃ e:Option Addr,((n.getD (.pointer none)):Value)=(.pointer e)/\
(bsel (!e.isNone)
(Q 6 h)
(aF b λg=>
aI .i64 (add g 5) h λi=>
f_qat b d (λo p q r h=>
(aI .i64 (add g 5) h λs=>
((.int .i64 s):Value)=(.int .i64 i))/\
(f_qby o p q r i (λt j h=>
bsel (j != 0)
(Q j h)
(aF b λu=>
aM (add u 6) h λv=>
aN h (.map #[] 0) λw h=>
aN h (.cells #[(.int .i64 d),(.int .i64 t),(.slice none 0 0),(.map (some w))] 120) λx h=>
mK h v .i64 c (.pointer (some (mk x 0 none))) λh=>
Q 0 h)) h)) h))))
def qbz_A:qbz_T:=qbz_G qat_A qby_A
def qbz_W (f:qbz_T):aX [.c .p,.c (.i .i64),.c (.i .i64)] EnR:=λb c d K _Kp=>f b c d (λe=>K (.int .i64 e))
abbrev qca_T:=Sl->Sl->Int->Int->(Int->Int->Sl->Sl->Bool->AP)->AP
variable (f_qca:qca_T)
def qca_A:qca_T:=λe _p1 _p2 p Q h=>
(∃ g:Int->Int->Int->Sl->Sl->Nat->AP,(∃ c,g 0 0 0 Sl.nil Sl.nil c h)/\∀ b i j l m c h,g b i j l m c h->
bsel (decide (b<(Int.ofNat e.len)))
(aF e.a λd=>
bB b e.len
(aI .i64 (add d (toNat b*4)) h λn=>
aI .i64 (add (add d (toNat b*4)) 1) h λq=>
aS (add (add d (toNat b*4)) 2) h λr=>
aS (add (add d (toNat b*4)) 3) h λs=>
bsel (n==p)
(Q n q r s true h)
(∃ o,o<c/\g (wrap .i64 (b+1)) i j l m o h)))
(Q 0 0 (Sl.mk (none:Option Addr) (0:Nat) (0:Nat)) (Sl.mk (none:Option Addr) (0:Nat) (0:Nat)) false h))
def qca_W (f:qca_T):aX [.agg [.s,.s,(.i .i64)],.c (.i .i64)] EnR:=λd e g i K _Kp=>f d e g i (λj l b c m=>K (.tuple #[(.agg #[(.int .i64 j),(.int .i64 l),(.slice b.a b.len b.cap),(.slice c.a c.len c.cap)]),(.bool m)]))
abbrev qcb_T:=Int->Int->Sl->Sl->(Sl->AP)->AP
variable (f_qcb:qcb_T)
def qcb_A:qcb_T:=λ_p0 _p1 _p2 d Q h=>
(aN h (.cells #[] 3) λl h=>
∃ e:Sl->Int->Nat->AP,(∃ c,e (Sl.mk (some (mk l 0 none)) 0 0) 0 c h)/\∀ g b c h,e g b c h->
bsel (decide (b<(Int.ofNat d.len)))
(aF d.a λi=>
bB b d.len
(aI .i64 (add i (toNat b*3)) h λm=>
aI .i64 (add (add i (toNat b*3)) 1) h λ_=>
aI .i64 (add (add i (toNat b*3)) 2) h λ_=>
aN h (.cells #[(.int .i64 m)] 3) λn h=>
dM 1 8 #[(.int .i64 0)] 3 g (Sl.mk (some (mk n 0 none)) 1 1) h λo h=>
∃ j,j<c/\e o (wrap .i64 (b+1)) j h))
(Q g h))
def qcb_W (f:qcb_T):aX [.agg [(.i .i64),(.i .i64),.s,.s]] EnR:=λc d e g K _Kp=>f c d e g (λb=>K (.slice b.a b.len b.cap))
abbrev qcc_T:=Sl->(Int->AP)->AP
variable (f_qcc:qcc_T)
def qcc_A:qcc_T:=λc Q h=>
(∃ m:Int->Int->Nat->AP,(∃ g,m 1 0 g h)/\∀ n b g h,m n b g h->
bsel (decide (b<(Int.ofNat c.len)))
(aF c.a λs=>
bB b c.len
(aI .i64 (add s (toNat b*1)) h λt=>
aN h (.cells #[(.int .i64 9),(.int .i64 18),(.int .i64 27)] 3) λu h=>
∃ o:Int->Int->Nat->AP,(∃ i,o n 0 i h)/\∀ d e i h,o d e i h->
bsel (decide (e<3))
(∃ j:Int->AP,(∀ p h,j p h->
∃ q,q<i/\o p (wrap .i64 (e+1)) q h)/\
(bB e 3
(aI .i64 (add (mk u 0 none) (toNat e*1)) h λl=>
bsel (b==0)
(j (wrap .i64 (d+1)) h)
(aF c.a λv=>
bB (wrap .i64 (b-1)) c.len
(aI .i64 (add v (toNat (wrap .i64 (b-1))*1)) h λw=>
bsel (decide (l<0)) False
(bsel (decide (l<0)) False
(bsel ((Int.fdiv w (2 ^ (min (toNat l) 64))) != (Int.fdiv t (2 ^ (min (toNat l) 64))))
(j (wrap .i64 (d+1)) h)
(j d h))))))))
(∃ r,r<g/\m d (wrap .i64 (b+1)) r h)))
(Q n h))
def qcc_W (f:qcc_T):aX [.c .s] EnR:=λb K _Kp=>f b (λc=>K (.int .i64 c))
abbrev qcd_T:=Sl->Int->(Int->Int->Bool->Bool->Bool->Int->Bool->AP)->AP
variable (f_qcd:qcd_T)
def qcd_A:qcd_T:=λi q Q h=>
(∃ g:Int->Int->Int->Bool->Bool->Bool->Int->Nat->AP,(∃ d,g 0 0 0 false false false 0 d h)/\∀ b j l m n o p d h,g b j l m n o p d h->
bsel (decide (b<(Int.ofNat i.len)))
(aF i.a λc=>
bB b i.len
(aI .i64 (add c (toNat b*6)) h λr=>
aI .i64 (add (add c (toNat b*6)) 1) h λs=>
aB (add (add c (toNat b*6)) 2) h λt=>
aB (add (add c (toNat b*6)) 3) h λu=>
aB (add (add c (toNat b*6)) 4) h λv=>
aI .i64 (add (add c (toNat b*6)) 5) h λw=>
bsel (decide (q>=r))
(bsel (decide (q<s))
(Q r s t u v w true h)
(∃ e,e<d/\g (wrap .i64 (b+1)) j l m n o p e h))
(∃ e,e<d/\g (wrap .i64 (b+1)) j l m n o p e h)))
(Q 0 0 (false:Bool) (false:Bool) (false:Bool) 0 false h))
def qcd_W (f:qcd_T):aX [.c .s,.c (.i .i64)] EnR:=λb c K _Kp=>f b c (λd e g i j l m=>K (.tuple #[(.agg #[(.int .i64 d),(.int .i64 e),(.bool g),(.bool i),(.bool j),(.int .i64 l)]),(.bool m)]))
abbrev qce_T:=Int->Int->Sl->Sl->(Int->AP)->AP
variable (f_qce:qce_T)
def qce_G:qce_T:=λo p l c Q h=>
(f_qcb o p l c (λq h=>
f_qcc q (λr h=>
∃ g:Int->Int->Nat->AP,(∃ d,g r 0 d h)/\∀ e b d h,g e b d h->
bsel (decide (b<(Int.ofNat c.len)))
(∃ i:Int->AP,(∀ m h,i m h->
∃ n,n<d/\g m (wrap .i64 (b+1)) n h)/\
(aF c.a λj=>
bB b c.len
(aI .i64 (add j (toNat b*3)) h λs=>
aI .i64 (add (add j (toNat b*3)) 1) h λ_=>
aI .i64 (add (add j (toNat b*3)) 2) h λ_=>
f_qcd l s (λ_ _ _ _ _ t _ h=>
bsel (t==0)
(i (wrap .i64 (e+1)) h)
(i e h)) h)))
(Q e h)) h) h)
def qce_A:qce_T:=qce_G qcb_A qcc_A qcd_A
def qce_W (f:qce_T):aX [.agg [(.i .i64),(.i .i64),.s,.s]] EnR:=λb c d e K _Kp=>f b c d e (λg=>K (.int .i64 g))
abbrev qcf_T:=Sl->Int->(Int->Int->Int->Int->Bool->AP)->AP
variable (f_qcf:qcf_T)
def qcf_A:qcf_T:=λe p Q h=>
(∃ g:Int->Int->Int->Int->Int->Nat->AP,(∃ c,g 0 0 0 0 0 c h)/\∀ b i j l m c h,g b i j l m c h->
bsel (decide (b<(Int.ofNat e.len)))
(aF e.a λd=>
bB b e.len
(aI .i64 (add d (toNat b*4)) h λn=>
aI .i64 (add (add d (toNat b*4)) 1) h λq=>
aI .i64 (add (add d (toNat b*4)) 2) h λr=>
aI .i64 (add (add d (toNat b*4)) 3) h λs=>
bsel (n==p)
(Q n q r s true h)
(∃ o,o<c/\g (wrap .i64 (b+1)) i j l m o h)))
(Q 0 0 0 0 false h))
def qcf_W (f:qcf_T):aX [.c .s,.c (.i .i64)] EnR:=λb c K _Kp=>f b c (λd e g i j=>K (.tuple #[(.agg #[(.int .i64 d),(.int .i64 e),(.int .i64 g),(.int .i64 i)]),(.bool j)]))
abbrev qcg_T:=Sl->Int->(Int->AP)->AP
variable (f_qcg:qcg_T)
def qcg_A:qcg_T:=λg n Q h=>
(∃ i:Int->Int->Nat->AP,(∃ c,i 0 0 c h)/\∀ d b c h,i d b c h->
bsel (decide (b<(Int.ofNat g.len)))
(∃ j:Int->AP,(∀ l h,j l h->
∃ m,m<c/\i l (wrap .i64 (b+1)) m h)/\
(aF g.a λe=>
bB b g.len
(aI .i64 (add e (toNat b*4)) h λ_=>
aI .i64 (add (add e (toNat b*4)) 1) h λo=>
aI .i64 (add (add e (toNat b*4)) 2) h λp=>
aI .i64 (add (add e (toNat b*4)) 3) h λ_=>
bsel (o==n)
(j (wrap .i64 (d+p)) h)
(j d h))))
(Q d h))
def qcg_W (f:qcg_T):aX [.c .s,.c (.i .i64)] EnR:=λb c K _Kp=>f b c (λd=>K (.int .i64 d))
abbrev qch_T:=Sl->Int->(Int->AP)->AP
variable (f_qch:qch_T)
def qch_G:qch_T:=λb c Q h=>
(f_qcf b c (λ_ _ d e g h=>
bsel (!g)
(Q 0 h)
(f_qcg b c (λi h=>
Q (wrap .i64 ((wrap .i64 (d-e))-i)) h) h)) h)
def qch_A:qch_T:=qch_G qcf_A qcg_A
def qch_W (f:qch_T):aX [.c .s,.c (.i .i64)] EnR:=λb c K _Kp=>f b c (λd=>K (.int .i64 d))
abbrev qci_T:=Sl->Sl->Int->Int->Int->Sl->Sl->(Sl->Sl->Int->AP)->AP
variable (f_qci:qci_T)
def qci_A:qci_T:=λn B C i w c d Q h=>
(aN h (.cells #[] 73) λD h=>
∃ o:Sl->Bool->Int->Nat->AP,(∃ j,o (Sl.mk (some (mk D 0 none)) 0 0) false 0 j h)/\∀ e g b j h,o e g b j h->
bsel (decide (b<(Int.ofNat n.len)))
(∃ p:Sl->Bool->AP,(∀ x y h,p x y h->
∃ z,z<j/\o x y (wrap .i64 (b+1)) z h)/\
(aF n.a λl=>
bB b n.len
(aI .i64 (add l (toNat b*4)) h λq=>
aI .i64 (add (add l (toNat b*4)) 1) h λE=>
aS (add (add l (toNat b*4)) 2) h λr=>
aS (add (add l (toNat b*4)) 3) h λs=>
∃ m:Sl->Bool->AP,(∀ t u h,m t u h->
bsel (q != i)
(aN h (.cells #[(.int .i64 q),(.int .i64 E),(.slice r.a r.len r.cap),(.slice s.a s.len s.cap)] 73) λF h=>
dM 4 64 #[(.int .i64 0),(.int .i64 0),(.slice none 0 0),(.slice none 0 0)] 73 t (Sl.mk (some (mk F 0 none)) 1 1) h λG h=>
p G u h)
(p t u h))/\
(bsel (!g)
(bsel (decide (q>=i))
(aN h (.cells #[(.int .i64 i),(.int .i64 w),(.slice c.a c.len c.cap),(.slice d.a d.len d.cap)] 73) λH h=>
dM 4 64 #[(.int .i64 0),(.int .i64 0),(.slice none 0 0),(.slice none 0 0)] 73 e (Sl.mk (some (mk H 0 none)) 1 1) h λI h=>
m I true h)
(m e g h))
(m e g h)))))
(∃ v:Sl->AP,(∀ A h,v A h->
Q A B C h)/\
(bsel (!g)
(aN h (.cells #[(.int .i64 i),(.int .i64 w),(.slice c.a c.len c.cap),(.slice d.a d.len d.cap)] 73) λJ h=>
dM 4 64 #[(.int .i64 0),(.int .i64 0),(.slice none 0 0),(.slice none 0 0)] 73 e (Sl.mk (some (mk J 0 none)) 1 1) h λL h=>
v L h)
(v e h))))
def qci_W (f:qci_T):aX [.agg [.s,.s,(.i .i64)],.agg [(.i .i64),(.i .i64),.s,.s]] EnR:=λd e g i j l m K _Kp=>f d e g i j l m (λb c n=>K (.agg #[(.slice b.a b.len b.cap),(.slice c.a c.len c.cap),(.int .i64 n)]))
abbrev qcj_T:=Sl->Int->Int->(Sl->AP)->AP
variable (f_qcj:qcj_T)
def qcj_A:qcj_T:=λe p q Q h=>
(aN h (.cells #[] 90) λr h=>
∃ g:Sl->Int->Nat->AP,(∃ c,g (Sl.mk (some (mk r 0 none)) 0 0) 0 c h)/\∀ i b c h,g i b c h->
bsel (decide (b<(Int.ofNat e.len)))
(aF e.a λd=>
bB b e.len
(aI .i64 (add d (toNat b*4)) h λl=>
aI .i64 (add (add d (toNat b*4)) 1) h λs=>
aI .i64 (add (add d (toNat b*4)) 2) h λt=>
aI .i64 (add (add d (toNat b*4)) 3) h λm=>
∃ j:Int->AP,(∀ n h,j n h->
aN h (.cells #[(.int .i64 l),(.int .i64 s),(.int .i64 t),(.int .i64 n)] 90) λu h=>
dM 4 32 #[(.int .i64 0),(.int .i64 0),(.int .i64 0),(.int .i64 0)] 90 i (Sl.mk (some (mk u 0 none)) 1 1) h λv h=>
∃ o,o<c/\g v (wrap .i64 (b+1)) o h)/\
(bsel (l==p)
(j (wrap .i64 (m+q)) h)
(j m h))))
(Q i h))
def qcj_W (f:qcj_T):aX [.c .s,.c (.i .i64),.c (.i .i64)] EnR:=λc d e K _Kp=>f c d e (λb=>K (.slice b.a b.len b.cap))
abbrev qck_T:=Sl->Sl->Int->Int->Int->Sl->Sl->(Sl->Sl->Int->Int->AP)->AP
variable (f_qck:qck_T)
def qck_G:qck_T:=λd b e g c l m Q h=>
(f_qca d b e g (λo p q r s h=>
f_qce g c l m (λn h=>
∃ i:Int->AP,(∀ j h,i j h->
f_qcf b c (λ_ _ _ _ t h=>
bsel (!t)
(Q d b e 5 h)
(f_qch b c (λu h=>
bsel (decide (j > u))
(Q d b e 8 h)
(f_qci d b e g c l m (λv _ w h=>
f_qcj b c j (λx h=>
Q v x w 0 h) h) h)) h)) h)/\
(bsel s
(f_qce o p q r (λy h=>
i (wrap .i64 (n-y)) h) h)
(i n h))) h) h)
def qck_A:qck_T:=qck_G qca_A qce_A qcf_A qch_A qci_A qcj_A
def qck_W (f:qck_T):aX [.agg [.s,.s,(.i .i64)],.agg [(.i .i64),(.i .i64),.s,.s]] EnR:=λd e g i j l m K _Kp=>f d e g i j l m (λb c n o=>K (.tuple #[(.agg #[(.slice b.a b.len b.cap),(.slice c.a c.len c.cap),(.int .i64 n)]),(.int .i64 o)]))
abbrev qcl_T:=Sl->Sl->Int->Int->Int->(Sl->Sl->Int->Int->AP)->AP
variable (f_qcl:qcl_T)
def qcl_G:qcl_T:=λb c d e g Q h=>
(bsel (decide (e<0))
(Q b c d 1 h)
(f_qca b c d e (λ_ _ _ _ i h=>
bsel i
(Q b c d 6 h)
(f_qck b c d e g Sl.nil Sl.nil (λj l m n h=>
Q j l m n h) h)) h))
def qcl_A:qcl_T:=qcl_G qca_A qck_A
def qcl_W (f:qcl_T):aX [.agg [.s,.s,(.i .i64)],.c (.i .i64),.c (.i .i64)] EnR:=λd e g i j K _Kp=>f d e g i j (λb c l m=>K (.tuple #[(.agg #[(.slice b.a b.len b.cap),(.slice c.a c.len c.cap),(.int .i64 l)]),(.int .i64 m)]))
abbrev qcm_T:=Int->Int->(Bool->AP)->AP
variable (f_qcm:qcm_T)
def qcm_A:qcm_T:=λb c Q h=>
(bsel (decide (b>=0))
(bsel (decide (c > b))
(bsel (decide (c<=34359738368))
(Q (decide ((wrap .i64 (c-b))<=65536)) h)
(Q false h))
(Q false h))
(Q false h))
def qcm_W (f:qcm_T):aX [.agg [(.i .i64),(.i .i64)]] EnR:=λb c K _Kp=>f b c (λd=>K (.bool d))
abbrev qcn_T:=Int->Int->Bool->Bool->Bool->Int->Int->Int->Bool->Bool->Bool->Int->(Bool->AP)->AP
variable (f_qcn:qcn_T)
def qcn_A:qcn_T:=λ_p0 b c d e g i _p7 j l m n Q h=>
(bsel (b==i)
(bsel ((c==j)&&((d==l)&&((e==m)&&true)))
(Q (g==n) h)
(Q false h))
(Q false h))
def qcn_W (f:qcn_T):aX [.agg [(.i .i64),(.i .i64),.b,.b,.b,(.i .i64)],.agg [(.i .i64),(.i .i64),.b,.b,.b,(.i .i64)]] EnR:=λb c d e g i j l m n o p K _Kp=>f b c d e g i j l m n o p (λq=>K (.bool q))
abbrev qco_T:=Sl->(Bool->AP)->AP
variable (f_qco:qco_T)
def qco_G:qco_T:=λc Q h=>
(bsel (decide ((Int.ofNat c.len) > 64))
(Q false h)
(∃ j:Int->Nat->AP,(∃ g,j 0 g h)/\∀ b g h,j b g h->
bsel (decide (b<(Int.ofNat c.len)))
(aF c.a λd=>
bB b c.len
(aI .i64 (add d (toNat b*6)) h λl=>
aI .i64 (add (add d (toNat b*6)) 1) h λm=>
aB (add (add d (toNat b*6)) 2) h λn=>
aB (add (add d (toNat b*6)) 3) h λo=>
aB (add (add d (toNat b*6)) 4) h λp=>
aI .i64 (add (add d (toNat b*6)) 5) h λq=>
bsel (decide (l<0))
(Q false h)
(bsel (decide (m<=l))
(Q false h)
(bsel (decide (m > 34359738368))
(Q false h)
(bsel (decide (b > 0))
(aF c.a λr=>
bB (wrap .i64 (b-1)) c.len
(aI .i64 (add (add r (toNat (wrap .i64 (b-1))*6)) 1) h λs=>
bsel (decide (s > l))
(Q false h)
(aF c.a λe=>
bB (wrap .i64 (b-1)) c.len
(aI .i64 (add e (toNat (wrap .i64 (b-1))*6)) h λt=>
aI .i64 (add (add e (toNat (wrap .i64 (b-1))*6)) 1) h λu=>
aB (add (add e (toNat (wrap .i64 (b-1))*6)) 2) h λv=>
aB (add (add e (toNat (wrap .i64 (b-1))*6)) 3) h λw=>
aB (add (add e (toNat (wrap .i64 (b-1))*6)) 4) h λx=>
aI .i64 (add (add e (toNat (wrap .i64 (b-1))*6)) 5) h λy=>
f_qcn t u v w x y l m n o p q (λz h=>
bsel z
(Q false h)
(∃ i,i<g/\j (wrap .i64 (b+1)) i h)) h))))
(∃ i,i<g/\j (wrap .i64 (b+1)) i h))))))
(Q true h)))
def qco_A:qco_T:=qco_G qcn_A
def qco_W (f:qco_T):aX [.c .s] EnR:=λb K _Kp=>f b (λc=>K (.bool c))
abbrev qcp_T:=Sl->(Sl->AP)->AP
variable (f_qcp:qcp_T)
def qcp_A:qcp_T:=λb Q h=>
(bsel (Option.isNone b.a)
(Q Sl.nil h)
(aN h (.cells #[] 123) λc h=>
dM 6 32 #[(.int .i64 0),(.int .i64 0),(.bool false),(.bool false),(.bool false),(.int .i64 0)] 123 (Sl.mk (some (mk c 0 none)) 0 0) b h λd h=>
Q d h))
def qcp_W (f:qcp_T):aX [.c .s] EnR:=λc K _Kp=>f c (λb=>K (.slice b.a b.len b.cap))
abbrev qcq_T:=Sl->Sl->(Bool->AP)->AP
variable (f_qcq:qcq_T)
def qcq_A:qcq_T:=ovA
def qcq_W (f:qcq_T):aX [.c .s,.c .s] EnR:=λb c K _Kp=>f b c (λd=>K (.bool d))
abbrev qcr_T:=Sl->(AH->Prop)->AP
variable (f_qcr:qcr_T)
def qcr_A:qcr_T:=λd Q h=>
(∃ m:Int->Int->Nat->AP,(∃ l,m 0 (wrap .i64 ((Int.ofNat d.len)-1)) l h)/\∀ b c l h,m b c l h->
bsel (decide (b<c))
(aF d.a λe=>
bB c d.len
(aF d.a λg=>
bB b d.len
(aI .i64 (add e (toNat c*6)) h λo=>
aI .i64 (add (add e (toNat c*6)) 1) h λp=>
aB (add (add e (toNat c*6)) 2) h λq=>
aB (add (add e (toNat c*6)) 3) h λr=>
aB (add (add e (toNat c*6)) 4) h λs=>
aI .i64 (add (add e (toNat c*6)) 5) h λt=>
aI .i64 (add g (toNat b*6)) h λu=>
aI .i64 (add (add g (toNat b*6)) 1) h λv=>
aB (add (add g (toNat b*6)) 2) h λw=>
aB (add (add g (toNat b*6)) 3) h λx=>
aB (add (add g (toNat b*6)) 4) h λy=>
aI .i64 (add (add g (toNat b*6)) 5) h λz=>
aF d.a λi=>
bB b d.len
(aC (add i (toNat b*6)) (.int .i64 o) h λh=>
aC (add (add i (toNat b*6)) 1) (.int .i64 p) h λh=>
aC (add (add i (toNat b*6)) 2) (.bool q) h λh=>
aC (add (add i (toNat b*6)) 3) (.bool r) h λh=>
aC (add (add i (toNat b*6)) 4) (.bool s) h λh=>
aC (add (add i (toNat b*6)) 5) (.int .i64 t) h λh=>
aF d.a λj=>
bB c d.len
(aC (add j (toNat c*6)) (.int .i64 u) h λh=>
aC (add (add j (toNat c*6)) 1) (.int .i64 v) h λh=>
aC (add (add j (toNat c*6)) 2) (.bool w) h λh=>
aC (add (add j (toNat c*6)) 3) (.bool x) h λh=>
aC (add (add j (toNat c*6)) 4) (.bool y) h λh=>
aC (add (add j (toNat c*6)) 5) (.int .i64 z) h λh=>
∃ n,n<l/\m (wrap .i64 (b+1)) (wrap .i64 (c-1)) n h)))))
(Q h))
def qcr_W (f:qcr_T):aX [.c .s] EnR:=λb K _Kp=>f b (K (.tuple #[]))
abbrev qcs_T:=Sl->Int->(AH->Prop)->AP
variable (f_qcs:qcs_T)
def qcs_G:qcs_T:=λb c Q h=>
(bB c (b.cap+1)
(f_qcr (Sl.mk (if b.cap=0 then b.a else Option.map (λd=>add d (0*6)) b.a) (toNat c) b.cap) (λh=>
bB c (b.len+1)
(f_qcr (Sl.mk (if b.cap=(toNat c) then b.a else Option.map (λd=>add d ((toNat c)*6)) b.a) (b.len-(toNat c)) (b.cap-(toNat c))) (λh=>
f_qcr b (λh=>
Q h) h) h)) h))
def qcs_A:qcs_T:=qcs_G qcr_A
def qcs_W (f:qcs_T):aX [.c .s,.c (.i .i64)] EnR:=λb c K _Kp=>f b c (K (.tuple #[]))
abbrev qct_T:=Sl->Int->(AH->Prop)->AP
variable (f_qct:qct_T)
def qct_G:qct_T:=λb c Q h=>
(f_qcs b (wrap .i64 ((Int.ofNat b.len)-c)) (λh=>
Q h) h)
def qct_A:qct_T:=qct_G qcs_A
def qct_W (f:qct_T):aX [.c .s,.c (.i .i64)] EnR:=λb c K _Kp=>f b c (K (.tuple #[]))
abbrev qcu_T:=Sl->Int->Sl->(Sl->AP)->AP
variable (f_qcu:qcu_T)
def qcu_G:qcu_T:=λb d e Q h=>
(bB d (b.len+1)
(bsel ((Int.ofNat e.len)==0)
(Q b h)
(bsel (d==(Int.ofNat b.len))
(dM 6 32 #[(.int .i64 0),(.int .i64 0),(.bool false),(.bool false),(.bool false),(.int .i64 0)] 123 b e h λi h=>
Q i h)
(bsel (decide ((wrap .i64 ((Int.ofNat b.len)+(Int.ofNat e.len))) > (Int.ofNat b.cap)))
(bB d (b.cap+1)
(apZ 6 32 #[(.int .i64 0),(.int .i64 0),(.bool false),(.bool false),(.bool false),(.int .i64 0)] 123 (Sl.mk (if b.cap=0 then b.a else Option.map (λc=>add c (0*6)) b.a) (toNat d) b.cap) (wrap .i64 ((wrap .i64 ((Int.ofNat b.len)+(Int.ofNat e.len)))-d)) h λg h=>
bB d (g.len+1)
(cpA 6 (Sl.mk (if g.cap=(toNat d) then g.a else Option.map (λc=>add c ((toNat d)*6)) g.a) (g.len-(toNat d)) (g.cap-(toNat d))) e h λ_ h=>
bB (wrap .i64 (d+(Int.ofNat e.len))) (g.len+1)
(bB d (b.len+1)
(cpA 6 (Sl.mk (if g.cap=(toNat (wrap .i64 (d+(Int.ofNat e.len)))) then g.a else Option.map (λc=>add c ((toNat (wrap .i64 (d+(Int.ofNat e.len))))*6)) g.a) (g.len-(toNat (wrap .i64 (d+(Int.ofNat e.len))))) (g.cap-(toNat (wrap .i64 (d+(Int.ofNat e.len)))))) (Sl.mk (if b.cap=(toNat d) then b.a else Option.map (λc=>add c ((toNat d)*6)) b.a) (b.len-(toNat d)) (b.cap-(toNat d))) h λ_ h=>
Q g h)))))
(bB (wrap .i64 ((Int.ofNat b.len)+(Int.ofNat e.len))) (b.cap+1)
(bB (wrap .i64 (d+(Int.ofNat e.len))) ((toNat (wrap .i64 ((Int.ofNat b.len)+(Int.ofNat e.len))))+1)
(f_qcq e (Sl.mk (if b.cap=(toNat (wrap .i64 (d+(Int.ofNat e.len)))) then (if b.cap=0 then b.a else Option.map (λc=>add c (0*6)) b.a) else Option.map (λc=>add c ((toNat (wrap .i64 (d+(Int.ofNat e.len))))*6)) (if b.cap=0 then b.a else Option.map (λc=>add c (0*6)) b.a)) ((toNat (wrap .i64 ((Int.ofNat b.len)+(Int.ofNat e.len))))-(toNat (wrap .i64 (d+(Int.ofNat e.len))))) (b.cap-(toNat (wrap .i64 (d+(Int.ofNat e.len)))))) (λj h=>
bsel (!j)
(bB (wrap .i64 (d+(Int.ofNat e.len))) ((toNat (wrap .i64 ((Int.ofNat b.len)+(Int.ofNat e.len))))+1)
(bB d ((toNat (wrap .i64 ((Int.ofNat b.len)+(Int.ofNat e.len))))+1)
(cpA 6 (Sl.mk (if b.cap=(toNat (wrap .i64 (d+(Int.ofNat e.len)))) then (if b.cap=0 then b.a else Option.map (λc=>add c (0*6)) b.a) else Option.map (λc=>add c ((toNat (wrap .i64 (d+(Int.ofNat e.len))))*6)) (if b.cap=0 then b.a else Option.map (λc=>add c (0*6)) b.a)) ((toNat (wrap .i64 ((Int.ofNat b.len)+(Int.ofNat e.len))))-(toNat (wrap .i64 (d+(Int.ofNat e.len))))) (b.cap-(toNat (wrap .i64 (d+(Int.ofNat e.len)))))) (Sl.mk (if b.cap=(toNat d) then (if b.cap=0 then b.a else Option.map (λc=>add c (0*6)) b.a) else Option.map (λc=>add c ((toNat d)*6)) (if b.cap=0 then b.a else Option.map (λc=>add c (0*6)) b.a)) ((toNat (wrap .i64 ((Int.ofNat b.len)+(Int.ofNat e.len))))-(toNat d)) (b.cap-(toNat d))) h λ_ h=>
bB d ((toNat (wrap .i64 ((Int.ofNat b.len)+(Int.ofNat e.len))))+1)
(cpA 6 (Sl.mk (if b.cap=(toNat d) then (if b.cap=0 then b.a else Option.map (λc=>add c (0*6)) b.a) else Option.map (λc=>add c ((toNat d)*6)) (if b.cap=0 then b.a else Option.map (λc=>add c (0*6)) b.a)) ((toNat (wrap .i64 ((Int.ofNat b.len)+(Int.ofNat e.len))))-(toNat d)) (b.cap-(toNat d))) e h λ_ h=>
Q (Sl.mk (if b.cap=0 then b.a else Option.map (λc=>add c (0*6)) b.a) (toNat (wrap .i64 ((Int.ofNat b.len)+(Int.ofNat e.len)))) b.cap) h))))
(bB (Int.ofNat b.len) ((toNat (wrap .i64 ((Int.ofNat b.len)+(Int.ofNat e.len))))+1)
(cpA 6 (Sl.mk (if b.cap=(toNat (Int.ofNat b.len)) then (if b.cap=0 then b.a else Option.map (λc=>add c (0*6)) b.a) else Option.map (λc=>add c ((toNat (Int.ofNat b.len))*6)) (if b.cap=0 then b.a else Option.map (λc=>add c (0*6)) b.a)) ((toNat (wrap .i64 ((Int.ofNat b.len)+(Int.ofNat e.len))))-(toNat (Int.ofNat b.len))) (b.cap-(toNat (Int.ofNat b.len)))) e h λ_ h=>
bB d ((toNat (wrap .i64 ((Int.ofNat b.len)+(Int.ofNat e.len))))+1)
(f_qct (Sl.mk (if b.cap=(toNat d) then (if b.cap=0 then b.a else Option.map (λc=>add c (0*6)) b.a) else Option.map (λc=>add c ((toNat d)*6)) (if b.cap=0 then b.a else Option.map (λc=>add c (0*6)) b.a)) ((toNat (wrap .i64 ((Int.ofNat b.len)+(Int.ofNat e.len))))-(toNat d)) (b.cap-(toNat d))) (Int.ofNat e.len) (λh=>
Q (Sl.mk (if b.cap=0 then b.a else Option.map (λc=>add c (0*6)) b.a) (toNat (wrap .i64 ((Int.ofNat b.len)+(Int.ofNat e.len)))) b.cap) h) h)))) h)))))))
def qcu_A:qcu_T:=qcu_G qcq_A qct_A
def qcu_W (f:qcu_T):aX [.c .s,.c (.i .i64),.c .s] EnR:=λc d e K _Kp=>f c d e (λb=>K (.slice b.a b.len b.cap))
abbrev qcv_T:=Sl->(Sl->AP)->AP
variable (f_qcv:qcv_T)
def qcv_G:qcv_T:=λl Q h=>
(∃ m:Sl->Int->Nat->AP,(∃ g,m Sl.nil 0 g h)/\∀ b c g h,m b c g h->
bsel (decide (c<(Int.ofNat l.len)))
(∃ i:Sl->AP,(∀ s h,i s h->
∃ t,t<g/\m s (wrap .i64 (c+1)) t h)/\
(aF l.a λd=>
bB c l.len
(aI .i64 (add d (toNat c*6)) h λn=>
aI .i64 (add (add d (toNat c*6)) 1) h λj=>
aB (add (add d (toNat c*6)) 2) h λo=>
aB (add (add d (toNat c*6)) 3) h λp=>
aB (add (add d (toNat c*6)) 4) h λq=>
aI .i64 (add (add d (toNat c*6)) 5) h λr=>
bsel (decide ((Int.ofNat b.len) > 0))
(aF b.a λe=>
bB (wrap .i64 ((Int.ofNat b.len)-1)) b.len
(aI .i64 (add e (toNat (wrap .i64 ((Int.ofNat b.len)-1))*6)) h λu=>
aI .i64 (add (add e (toNat (wrap .i64 ((Int.ofNat b.len)-1))*6)) 1) h λv=>
aB (add (add e (toNat (wrap .i64 ((Int.ofNat b.len)-1))*6)) 2) h λw=>
aB (add (add e (toNat (wrap .i64 ((Int.ofNat b.len)-1))*6)) 3) h λx=>
aB (add (add e (toNat (wrap .i64 ((Int.ofNat b.len)-1))*6)) 4) h λy=>
aI .i64 (add (add e (toNat (wrap .i64 ((Int.ofNat b.len)-1))*6)) 5) h λz=>
f_qcn u v w x y z n j o p q r (λA h=>
bsel A
(aF b.a λB=>
bB (wrap .i64 ((Int.ofNat b.len)-1)) b.len
(aC (add (add B (toNat (wrap .i64 ((Int.ofNat b.len)-1))*6)) 1) (.int .i64 j) h λh=>
i b h))
(aN h (.cells #[(.int .i64 n),(.int .i64 j),(.bool o),(.bool p),(.bool q),(.int .i64 r)] 123) λC h=>
dM 6 32 #[(.int .i64 0),(.int .i64 0),(.bool false),(.bool false),(.bool false),(.int .i64 0)] 123 b (Sl.mk (some (mk C 0 none)) 1 1) h λD h=>
i D h)) h))
(aN h (.cells #[(.int .i64 n),(.int .i64 j),(.bool o),(.bool p),(.bool q),(.int .i64 r)] 123) λE h=>
dM 6 32 #[(.int .i64 0),(.int .i64 0),(.bool false),(.bool false),(.bool false),(.int .i64 0)] 123 b (Sl.mk (some (mk E 0 none)) 1 1) h λF h=>
i F h))))
(Q b h))
def qcv_A:qcv_T:=qcv_G qcn_A
def qcv_W (f:qcv_T):aX [.c .s] EnR:=λc K _Kp=>f c (λb=>K (.slice b.a b.len b.cap))
abbrev qcw_T:=Sl->(Sl->Int->AP)->AP
variable (f_qcw:qcw_T)
def qcw_A:qcw_T:=λb Q h=>
(bsel (decide ((Int.ofNat b.len) > 64))
(Q Sl.nil 4 h)
(Q b 0 h))
def qcw_W (f:qcw_T):aX [.c .s] EnR:=λc K _Kp=>f c (λb d=>K (.tuple #[(.slice b.a b.len b.cap),(.int .i64 d)]))
abbrev qcx_T:=Sl->Int->Int->Bool->Bool->Bool->Int->(Sl->Int->AP)->AP
variable (f_qcx:qcx_T)
def qcx_G:qcx_T:=λc e g n o p q Q h=>
(f_qcm e g (λt h=>
bsel (!t)
(Q Sl.nil 1 h)
(f_qco c (λu h=>
bsel (!u)
(Q Sl.nil 3 h)
(∃ l:Int->Int->Nat->AP,(∃ i,l 0 0 i h)/\∀ j b i h,l j b i h->
bsel (decide (b<(Int.ofNat c.len)))
(∃ m:Int->AP,(∀ r h,m r h->
∃ s,s<i/\l r (wrap .i64 (b+1)) s h)/\
(aF c.a λd=>
bB b c.len
(aI .i64 (add d (toNat b*6)) h λv=>
aI .i64 (add (add d (toNat b*6)) 1) h λw=>
aB (add (add d (toNat b*6)) 2) h λ_=>
aB (add (add d (toNat b*6)) 3) h λ_=>
aB (add (add d (toNat b*6)) 4) h λ_=>
aI .i64 (add (add d (toNat b*6)) 5) h λ_=>
bsel (decide (w<=e))
(m (wrap .i64 (b+1)) h)
(bsel (decide (v<g))
(Q Sl.nil 6 h)
(m j h)))))
((f_qcp c (λx h=>
aN h (.cells #[(.int .i64 e),(.int .i64 g),(.bool n),(.bool o),(.bool p),(.int .i64 q)] 123) λy h=>
f_qcu x j (Sl.mk (some (mk y 0 none)) 1 1) (λz h=>
f_qcv z (λA h=>
f_qcw A (λB C h=>
Q B C h) h) h) h) h)/\
(aN h (.cells #[(.int .i64 e),(.int .i64 g),(.bool n),(.bool o),(.bool p),(.int .i64 q)] 123) λD h=>
f_qcp c (λE h=>
f_qcu E j (Sl.mk (some (mk D 0 none)) 1 1) (λF h=>
f_qcv F (λG h=>
f_qcw G (λH I h=>
Q H I h) h) h) h) h)))) h)) h)
def qcx_A:qcx_T:=qcx_G qcm_A qco_A qcp_A qcu_A qcv_A qcw_A
def qcx_W (f:qcx_T):aX [.c .s,.agg [(.i .i64),(.i .i64),.b,.b,.b,(.i .i64)]] EnR:=λc d e g i j l K _Kp=>f c d e g i j l (λb m=>K (.tuple #[(.slice b.a b.len b.cap),(.int .i64 m)]))
abbrev qcy_T:=Option Addr->Int->Int->Int->Bool->Bool->Bool->(Int->AP)->AP
variable (f_qcy:qcy_T)
def qcy_G:qcy_T:=λg i j l m n o Q h=>
(aF g λp=>
aM (add p 6) h λq=>
lG h q .i64 i λr=>
∃ b:Option Addr,((r.getD (.pointer none)):Value)=(.pointer b)/\
(bsel b.isNone
(Q 5 h)
(aF b λs=>
aS (add s 2) h λt=>
f_qcx t j l m n o 0 (λc e h=>
∃ d:AH->Prop,(∀ h,d h->
Q e h)/\
(bsel (e==0)
(aF b λu=>
aC (add u 2) (.slice c.a c.len c.cap) h λh=>
d h)
(d h))) h)))
def qcy_A:qcy_T:=qcy_G qcx_A
def qcy_W (f:qcy_T):aX [.c .p,.c (.i .i64),.agg [(.i .i64),(.i .i64)],.agg [.b,.b,.b]] EnR:=λb c d e g i j K _Kp=>f b c d e g i j (λl=>K (.int .i64 l))
abbrev qcz_T:=Int->Int->(Bool->AP)->AP
variable (f_qcz:qcz_T)
def qcz_A:qcz_T:=λb c Q h=>
(bsel (decide (0<=b))
(bsel (decide (b<c))
(bsel (decide (c<=34359738368))
(Q (decide ((wrap .i64 (c-b))<=65536)) h)
(Q false h))
(Q false h))
(Q false h))
def qcz_W (f:qcz_T):aX [.c (.i .i64),.c (.i .i64)] EnR:=λb c K _Kp=>f b c (λd=>K (.bool d))
abbrev qda_T:=Sl->(Bool->AP)->AP
variable (f_qda:qda_T)
def qda_A:qda_T:=λd Q h=>
(∃ m:Bool->Int->Nat->AP,(∃ j,m (decide ((Int.ofNat d.len)<=64)) 0 j h)/\∀ n b j h,m n b j h->
bsel (decide (b<(Int.ofNat d.len)))
(∃ c:Bool->AP,(∀ p h,c p h->
∃ q,q<j/\m p (wrap .i64 (b+1)) q h)/\
(aF d.a λe=>
bB b d.len
(aI .i64 (add e (toNat b*6)) h λl=>
aI .i64 (add (add e (toNat b*6)) 1) h λr=>
aB (add (add e (toNat b*6)) 2) h λt=>
aB (add (add e (toNat b*6)) 3) h λu=>
aB (add (add e (toNat b*6)) 4) h λv=>
aI .i64 (add (add e (toNat b*6)) 5) h λw=>
∃ i:Bool->AP,(∀ o h,i o h->
bsel (decide (b > 0))
(aF d.a λg=>
bB (wrap .i64 (b-1)) d.len
(aI .i64 (add g (toNat (wrap .i64 (b-1))*6)) h λ_=>
aI .i64 (add (add g (toNat (wrap .i64 (b-1))*6)) 1) h λs=>
aB (add (add g (toNat (wrap .i64 (b-1))*6)) 2) h λx=>
aB (add (add g (toNat (wrap .i64 (b-1))*6)) 3) h λy=>
aB (add (add g (toNat (wrap .i64 (b-1))*6)) 4) h λz=>
aI .i64 (add (add g (toNat (wrap .i64 (b-1))*6)) 5) h λA=>
bsel o
(bsel (decide (s<=l))
(bsel (s==l)
(bsel ((x==t)&&((y==u)&&((z==v)&&true)))
(c (!(A==w)) h)
(c true h))
(c true h))
(c false h))
(c false h)))
(c o h))/\
(bsel n
(bsel (decide (0<=l))
(bsel (decide (l<r))
(i (decide (r<=34359738368)) h)
(i false h))
(i false h))
(i false h)))))
(Q n h))
def qda_W (f:qda_T):aX [.c .s] EnR:=λb K _Kp=>f b (λc=>K (.bool c))
abbrev qdb_T:=Sl->Int->Int->(Int->AP)->AP
variable (f_qdb:qdb_T)
def qdb_A:qdb_T:=λm d e Q h=>
(∃ n:Int->Int->Nat->AP,(∃ g,n 0 0 g h)/\∀ i b g h,n i b g h->
bsel (decide (b<(Int.ofNat m.len)))
(∃ o:Int->AP,(∀ p h,o p h->
∃ q,q<g/\n p (wrap .i64 (b+1)) q h)/\
(aF m.a λc=>
bB b m.len
(aI .i64 (add c (toNat b*6)) h λj=>
aI .i64 (add (add c (toNat b*6)) 1) h λl=>
aB (add (add c (toNat b*6)) 2) h λ_=>
aB (add (add c (toNat b*6)) 3) h λ_=>
aB (add (add c (toNat b*6)) 4) h λ_=>
aI .i64 (add (add c (toNat b*6)) 5) h λ_=>
bsel (decide ((if d > j then d else j)<(if e<l then e else l)))
(o (wrap .i64 (i+(wrap .i64 ((if e<l then e else l)-(if d > j then d else j))))) h)
(o i h))))
(Q i h))
def qdb_W (f:qdb_T):aX [.c .s,.c (.i .i64),.c (.i .i64)] EnR:=λb c d K _Kp=>f b c d (λe=>K (.int .i64 e))
abbrev qdc_T:=Sl->Int->Int->(Sl->AP)->AP
variable (f_qdc:qdc_T)
def qdc_A:qdc_T:=λs L M Q h=>
(aN h (.cells #[] 3) λN h=>
aN h (.cells #[(.int .i64 L),(.int .i64 M)] 3) λO h=>
∃ j:Sl->Int->Nat->AP,(∃ e,j (Sl.mk (some (mk O 0 none)) 2 2) 0 e h)/\∀ d b e h,j d b e h->
bsel (decide (b<(Int.ofNat s.len)))
(aF s.a λg=>
bB b s.len
(aI .i64 (add g (toNat b*6)) h λB=>
aI .i64 (add (add g (toNat b*6)) 1) h λt=>
aB (add (add g (toNat b*6)) 2) h λ_=>
aB (add (add g (toNat b*6)) 3) h λ_=>
aB (add (add g (toNat b*6)) 4) h λ_=>
aI .i64 (add (add g (toNat b*6)) 5) h λ_=>
(aN h (.cells #[(.int .i64 B)] 3) λC h=>
(dM 1 8 #[(.int .i64 0)] 3 d (Sl.mk (some (mk C 0 none)) 1 1) h λP h=>
aN h (.cells #[(.int .i64 t)] 3) λR h=>
dM 1 8 #[(.int .i64 0)] 3 P (Sl.mk (some (mk R 0 none)) 1 1) h λS h=>
∃ c,c<e/\j S (wrap .i64 (b+1)) c h)/\
(aN h (.cells #[(.int .i64 t)] 3) λT h=>
dM 1 8 #[(.int .i64 0)] 3 d (Sl.mk (some (mk C 0 none)) 1 1) h λU h=>
dM 1 8 #[(.int .i64 0)] 3 U (Sl.mk (some (mk T 0 none)) 1 1) h λV h=>
∃ c,c<e/\j V (wrap .i64 (b+1)) c h))/\
(aN h (.cells #[(.int .i64 t)] 3) λW h=>
aN h (.cells #[(.int .i64 B)] 3) λX h=>
dM 1 8 #[(.int .i64 0)] 3 d (Sl.mk (some (mk X 0 none)) 1 1) h λY h=>
dM 1 8 #[(.int .i64 0)] 3 Y (Sl.mk (some (mk W 0 none)) 1 1) h λZ h=>
∃ c,c<e/\j Z (wrap .i64 (b+1)) c h)))
(∃ u:Sl->Int->Nat->AP,(∃ o,u (Sl.mk (some (mk N 0 none)) 0 0) 0 o h)/\∀ l m o h,u l m o h->
bsel (decide (m<(Int.ofNat d.len)))
(aF d.a λaa=>
bB m d.len
(aI .i64 (add aa (toNat m*1)) h λp=>
aN h (.cells #[] 3) λab h=>
∃ v:Sl->Bool->Int->Nat->AP,(∃ q,v (Sl.mk (some (mk ab 0 none)) 0 0) false 0 q h)/\∀ i r n q h,v i r n q h->
bsel (decide (n<(Int.ofNat l.len)))
(aF l.a λac=>
bB n l.len
(aI .i64 (add ac (toNat n*1)) h λw=>
∃ x:Sl->Bool->AP,(∀ D E h,x D E h->
aN h (.cells #[(.int .i64 w)] 3) λad h=>
dM 1 8 #[(.int .i64 0)] 3 D (Sl.mk (some (mk ad 0 none)) 1 1) h λae h=>
∃ F,F<q/\v ae E (wrap .i64 (n+1)) F h)/\
(∃ y:Bool->AP,(∀ G h,y G h->
bsel G
(∃ z:Sl->AP,(∀ H h,z H h->
x H true h)/\
(bsel (decide (w > p))
(aN h (.cells #[(.int .i64 p)] 3) λaf h=>
dM 1 8 #[(.int .i64 0)] 3 i (Sl.mk (some (mk af 0 none)) 1 1) h λag h=>
z ag h)
(z i h)))
(x i r h))/\
(bsel (!r)
(y (decide (w>=p)) h)
(y false h)))))
(∃ A:Sl->AP,(∀ I h,A I h->
∃ J,J<o/\u I (wrap .i64 (m+1)) J h)/\
(bsel (!r)
(aN h (.cells #[(.int .i64 p)] 3) λah h=>
dM 1 8 #[(.int .i64 0)] 3 i (Sl.mk (some (mk ah 0 none)) 1 1) h λai h=>
A ai h)
(A i h)))))
(Q l h)))
def qdc_W (f:qdc_T):aX [.c .s,.c (.i .i64),.c (.i .i64)] EnR:=λc d e K _Kp=>f c d e (λb=>K (.slice b.a b.len b.cap))
abbrev qdd_T:=Sl->Int->Int->Int->Int->Int->Bool->Bool->Bool->Int->(Sl->AP)->AP
variable (f_qdd:qdd_T)
def qdd_G:qdd_T:=λA B C x J L D E F M Q h=>
(aN h (.cells #[] 156) λN h=>
f_qdc A B C (λd h=>
∃ y:Sl->Int->Nat->AP,(∃ s,y (Sl.mk (some (mk N 0 none)) 0 0) 0 s h)/\∀ b c s h,y b c s h->
bsel (decide ((wrap .i64 (c+1))<(Int.ofNat d.len)))
(∃ e:Sl->AP,(∀ G h,e G h->
∃ H,H<s/\y G (wrap .i64 (c+1)) H h)/\
(aF d.a λO=>
bB c d.len
(aI .i64 (add O (toNat c*1)) h λP=>
f_qcd A P (λn o t u v p w h=>
∃ g:Bool->Int->Int->Bool->Bool->Bool->Int->AP,(∀ I R S i j l m h,g I R S i j l m h->
bsel (!I)
(e b h)
(aF d.a λT=>
bB c d.len
(aI .i64 (add T (toNat c*1)) h λq=>
aF d.a λU=>
bB (wrap .i64 (c+1)) d.len
(aI .i64 (add U (toNat (wrap .i64 (c+1))*1)) h λr=>
bsel (decide ((Int.ofNat b.len) > 0))
(aF b.a λV=>
bB (wrap .i64 ((Int.ofNat b.len)-1)) b.len
(aI .i64 (add (add V (toNat (wrap .i64 ((Int.ofNat b.len)-1))*6)) 1) h λW=>
bsel (W==q)
(aF b.a λz=>
bB (wrap .i64 ((Int.ofNat b.len)-1)) b.len
(aB (add (add z (toNat (wrap .i64 ((Int.ofNat b.len)-1))*6)) 2) h λX=>
aB (add (add (add z (toNat (wrap .i64 ((Int.ofNat b.len)-1))*6)) 2) 1) h λY=>
aB (add (add (add z (toNat (wrap .i64 ((Int.ofNat b.len)-1))*6)) 2) 2) h λZ=>
bsel ((X==i)&&((Y==j)&&((Z==l)&&true)))
(aF b.a λaa=>
bB (wrap .i64 ((Int.ofNat b.len)-1)) b.len
(aI .i64 (add (add aa (toNat (wrap .i64 ((Int.ofNat b.len)-1))*6)) 5) h λab=>
bsel (ab==m)
(aF b.a λac=>
bB (wrap .i64 ((Int.ofNat b.len)-1)) b.len
(aC (add (add ac (toNat (wrap .i64 ((Int.ofNat b.len)-1))*6)) 1) (.int .i64 r) h λh=>
e b h))
(aN h (.cells #[(.int .i64 q),(.int .i64 r),(.bool i),(.bool j),(.bool l),(.int .i64 m)] 156) λad h=>
dM 6 32 #[(.int .i64 0),(.int .i64 0),(.bool false),(.bool false),(.bool false),(.int .i64 0)] 156 b (Sl.mk (some (mk ad 0 none)) 1 1) h λae h=>
e ae h)))
(aN h (.cells #[(.int .i64 q),(.int .i64 r),(.bool i),(.bool j),(.bool l),(.int .i64 m)] 156) λaf h=>
dM 6 32 #[(.int .i64 0),(.int .i64 0),(.bool false),(.bool false),(.bool false),(.int .i64 0)] 156 b (Sl.mk (some (mk af 0 none)) 1 1) h λag h=>
e ag h)))
(aN h (.cells #[(.int .i64 q),(.int .i64 r),(.bool i),(.bool j),(.bool l),(.int .i64 m)] 156) λah h=>
dM 6 32 #[(.int .i64 0),(.int .i64 0),(.bool false),(.bool false),(.bool false),(.int .i64 0)] 156 b (Sl.mk (some (mk ah 0 none)) 1 1) h λai h=>
e ai h)))
(aN h (.cells #[(.int .i64 q),(.int .i64 r),(.bool i),(.bool j),(.bool l),(.int .i64 m)] 156) λaj h=>
dM 6 32 #[(.int .i64 0),(.int .i64 0),(.bool false),(.bool false),(.bool false),(.int .i64 0)] 156 b (Sl.mk (some (mk aj 0 none)) 1 1) h λak h=>
e ak h)))))/\
(aF d.a λal=>
bB c d.len
(aI .i64 (add al (toNat c*1)) h λam=>
bsel (decide (am>=B))
(aF d.a λan=>
bB c d.len
(aI .i64 (add an (toNat c*1)) h λao=>
bsel (decide (ao<C))
(bsel (x==1)
(g true J L D E F M h)
(bsel (x==2)
(g false n o t u v p h)
(bsel (x==3)
(g w n o D E F p h)
(g w n o t u v p h))))
(g w n o t u v p h)))
(g w n o t u v p h)))) h)))
(Q b h)) h)
def qdd_A:qdd_T:=qdd_G qcd_A qdc_A
def qdd_W (f:qdd_T):aX [.c .s,.c (.i .i64),.c (.i .i64),.c (.i .i64),.agg [(.i .i64),(.i .i64),.b,.b,.b,(.i .i64)]] EnR:=λc d e g i j l m n o K _Kp=>f c d e g i j l m n o (λb=>K (.slice b.a b.len b.cap))
abbrev qde_T:=Sl->Int->Int->Int->Int->Int->Bool->Bool->Bool->Int->(Int->AP)->AP
variable (f_qde:qde_T)
def qde_G:qde_T:=λd b c e g i j l m n Q h=>
(f_qcz b c (λo h=>
bsel (!o)
(Q 1 h)
(f_qda d (λp h=>
bsel (!p)
(Q 3 h)
(bsel (e==1)
(f_qdb d b c (λq h=>
bsel (decide (q > 0))
(Q 6 h)
(bsel (e==3)
(f_qdb d b c (λr h=>
bsel (r != (wrap .i64 (c-b)))
(Q 5 h)
(f_qdd d b c e g i j l m n (λs h=>
bsel (decide ((Int.ofNat s.len) > 64))
(Q 4 h)
(Q 0 h)) h)) h)
(f_qdd d b c e g i j l m n (λt h=>
bsel (decide ((Int.ofNat t.len) > 64))
(Q 4 h)
(Q 0 h)) h))) h)
(bsel (e==3)
(f_qdb d b c (λu h=>
bsel (u != (wrap .i64 (c-b)))
(Q 5 h)
(f_qdd d b c e g i j l m n (λv h=>
bsel (decide ((Int.ofNat v.len) > 64))
(Q 4 h)
(Q 0 h)) h)) h)
(f_qdd d b c e g i j l m n (λw h=>
bsel (decide ((Int.ofNat w.len) > 64))
(Q 4 h)
(Q 0 h)) h)))) h)) h)
def qde_A:qde_T:=qde_G qcz_A qda_A qdb_A qdd_A
def qde_W (f:qde_T):aX [.c .s,.c (.i .i64),.c (.i .i64),.c (.i .i64),.agg [(.i .i64),(.i .i64),.b,.b,.b,(.i .i64)]] EnR:=λb c d e g i j l m n K _Kp=>f b c d e g i j l m n (λo=>K (.int .i64 o))
abbrev qdf_T:=Int->Int->Sl->Sl->Int->Int->(Bool->AP)->AP
variable (f_qdf:qdf_T)
def qdf_G:qdf_T:=λ_p0 _p1 l g m n Q h=>
(∃ e:Int->Nat->AP,(∃ d,e 0 d h)/\∀ b d h,e b d h->
bsel (decide (b<(Int.ofNat g.len)))
(aF g.a λi=>
bB b g.len
(aI .i64 (add i (toNat b*3)) h λj=>
aI .i64 (add (add i (toNat b*3)) 1) h λ_=>
aI .i64 (add (add i (toNat b*3)) 2) h λo=>
f_qcd l j (λ_ _ _ _ _ p _ h=>
bsel (decide (j>=m))
(bsel (decide (j<n))
(bsel (decide (o > 0))
(Q true h)
(bsel (p==1)
(Q true h)
(∃ c,c<d/\e (wrap .i64 (b+1)) c h)))
(∃ c,c<d/\e (wrap .i64 (b+1)) c h))
(∃ c,c<d/\e (wrap .i64 (b+1)) c h)) h))
(Q false h))
def qdf_A:qdf_T:=qdf_G qcd_A
def qdf_W (f:qdf_T):aX [.agg [(.i .i64),(.i .i64),.s,.s],.c (.i .i64),.c (.i .i64)] EnR:=λb c d e g i K _Kp=>f b c d e g i (λj=>K (.bool j))
abbrev qdg_T:=Int->Int->Sl->Sl->Int->Int->(Int->Int->Sl->Sl->AP)->AP
variable (f_qdg:qdg_T)
def qdg_A:qdg_T:=λq r s i t u Q h=>
(aN h (.cells #[] 161) λv h=>
∃ j:Sl->Int->Nat->AP,(∃ d,j (Sl.mk (some (mk v 0 none)) 0 0) 0 d h)/\∀ c b d h,j c b d h->
bsel (decide (b<(Int.ofNat i.len)))
(∃ e:Sl->AP,(∀ m h,e m h->
∃ n,n<d/\j m (wrap .i64 (b+1)) n h)/\
(aF i.a λl=>
bB b i.len
(aI .i64 (add l (toNat b*3)) h λg=>
aI .i64 (add (add l (toNat b*3)) 1) h λo=>
aI .i64 (add (add l (toNat b*3)) 2) h λp=>
bsel (decide (g<t))
(aN h (.cells #[(.int .i64 g),(.int .i64 o),(.int .i64 p)] 161) λw h=>
dM 3 24 #[(.int .i64 0),(.int .i64 0),(.int .i64 0)] 161 c (Sl.mk (some (mk w 0 none)) 1 1) h λx h=>
e x h)
(bsel (decide (g>=u))
(aN h (.cells #[(.int .i64 g),(.int .i64 o),(.int .i64 p)] 161) λy h=>
dM 3 24 #[(.int .i64 0),(.int .i64 0),(.int .i64 0)] 161 c (Sl.mk (some (mk y 0 none)) 1 1) h λz h=>
e z h)
(e c h)))))
(Q q r s c h))
def qdg_W (f:qdg_T):aX [.agg [(.i .i64),(.i .i64),.s,.s],.c (.i .i64),.c (.i .i64)] EnR:=λd e g i j l K _Kp=>f d e g i j l (λm n b c=>K (.agg #[(.int .i64 m),(.int .i64 n),(.slice b.a b.len b.cap),(.slice c.a c.len c.cap)]))
abbrev qdh_T:=Sl->Sl->Int->Int->Int->Sl->Sl->Int->Int->Sl->Sl->(Sl->Sl->Int->Int->AP)->AP
variable (f_qdh:qdh_T)
def qdh_G:qdh_T:=λj b l m c n o d e g i Q h=>
(f_qci j b l d e g i (λp _ q h=>
f_qce d e g i (λr h=>
f_qce m c n o (λs h=>
f_qcj b c (wrap .i64 (r-s)) (λt h=>
Q p t q 0 h) h) h) h) h)
def qdh_A:qdh_T:=qdh_G qce_A qci_A qcj_A
def qdh_W (f:qdh_T):aX [.agg [.s,.s,(.i .i64)],.agg [(.i .i64),(.i .i64),.s,.s],.agg [(.i .i64),(.i .i64),.s,.s]] EnR:=λd e g i j l m n o p q K _Kp=>f d e g i j l m n o p q (λb c r s=>K (.tuple #[(.agg #[(.slice b.a b.len b.cap),(.slice c.a c.len c.cap),(.int .i64 r)]),(.int .i64 s)]))
abbrev qdi_T:=Sl->Sl->Int->Int->Int->Int->Int->Bool->Bool->Bool->(Sl->Sl->Int->Int->AP)->AP
variable (f_qdi:qdi_T)
def qdi_G:qdi_T:=λd e g t b c j o p q Q h=>
(f_qca d e g t (λl m i n u h=>
bsel (!u)
(Q d e g 5 h)
(f_qde i b c j b c o p q 0 (λs h=>
bsel (s != 0)
(Q d e g s h)
(∃ r:Sl->Sl->Int->AP,(∀ v w x h,r v w x h->
bsel (j==2)
(f_qdg l m i n b c (λy z _ A h=>
f_qdd i b c j b c o p q 0 (λB h=>
f_qdh d e g l m i n y z B A (λC D E F h=>
Q C D E F h) h) h) h)
(f_qdd i b c j b c o p q 0 (λG h=>
f_qci d e g l m G n (λH I J h=>
Q H I J 0 h) h) h))/\
(bsel (j != 1)
(f_qdf l m i n b c (λL h=>
bsel L
(Q d e g 11 h)
(r Sl.nil Sl.nil 0 h)) h)
(r Sl.nil Sl.nil 0 h)))) h)) h)
def qdi_A:qdi_T:=qdi_G qca_A qci_A qdd_A qde_A qdf_A qdg_A qdh_A
def qdi_W (f:qdi_T):aX [.agg [.s,.s,(.i .i64)],.c (.i .i64),.c (.i .i64),.c (.i .i64),.c (.i .i64),.agg [.b,.b,.b]] EnR:=λd e g i j l m n o p K _Kp=>f d e g i j l m n o p (λb c q r=>K (.tuple #[(.agg #[(.slice b.a b.len b.cap),(.slice c.a c.len c.cap),(.int .i64 q)]),(.int .i64 r)]))
abbrev qdj_T:=Int->Int->Bool->Bool->Bool->Int->Int->Int->(Int->Int->Bool->Bool->Bool->Int->Int->Int->Bool->Bool->Bool->Int->Int->Int->Bool->Bool->Bool->Int->AP)->AP
variable (f_qdj:qdj_T)
def qdj_A:qdj_T:=λM N O P R S e g Q h=>
(aN h (.cells #[(.int .i64 M),(.int .i64 N),(.bool O),(.bool P),(.bool R),(.int .i64 S)] 123) λb h=>
aN h (.cells #[(.int .i64 0),(.int .i64 0),(.bool false),(.bool false),(.bool false),(.int .i64 0)] 123) λd h=>
aN h (.cells #[(.int .i64 0),(.int .i64 0),(.bool false),(.bool false),(.bool false),(.int .i64 0)] 123) λc h=>
aI .i64 (mk b 0 none) h λT=>
aI .i64 (add (mk b 0 none) 1) h λ_=>
aB (add (mk b 0 none) 2) h λU=>
aB (add (mk b 0 none) 3) h λV=>
aB (add (mk b 0 none) 4) h λW=>
aI .i64 (add (mk b 0 none) 5) h λX=>
aI .i64 (mk b 0 none) h λv=>
aI .i64 (add (mk b 0 none) 1) h λw=>
aB (add (mk b 0 none) 2) h λx=>
aB (add (mk b 0 none) 3) h λy=>
aB (add (mk b 0 none) 4) h λz=>
aI .i64 (add (mk b 0 none) 5) h λA=>
aI .i64 (mk b 0 none) h λi=>
aI .i64 (add (mk b 0 none) 1) h λj=>
aB (add (mk b 0 none) 2) h λl=>
aB (add (mk b 0 none) 3) h λm=>
aB (add (mk b 0 none) 4) h λn=>
aI .i64 (add (mk b 0 none) 5) h λo=>
(aI .i64 (mk b 0 none) h λY=>
aI .i64 (add (mk b 0 none) 1) h λZ=>
aB (add (mk b 0 none) 2) h λaa=>
aB (add (mk b 0 none) 3) h λab=>
aB (add (mk b 0 none) 4) h λac=>
aI .i64 (add (mk b 0 none) 5) h λad=>
((.agg #[(.int .i64 Y),(.int .i64 Z),(.bool aa),(.bool ab),(.bool ac),(.int .i64 ad)]):Value)=(.agg #[(.int .i64 i),(.int .i64 j),(.bool l),(.bool m),(.bool n),(.int .i64 o)]))/\
((aI .i64 (mk b 0 none) h λae=>
aI .i64 (add (mk b 0 none) 1) h λaf=>
aB (add (mk b 0 none) 2) h λag=>
aB (add (mk b 0 none) 3) h λah=>
aB (add (mk b 0 none) 4) h λai=>
aI .i64 (add (mk b 0 none) 5) h λaj=>
((.agg #[(.int .i64 ae),(.int .i64 af),(.bool ag),(.bool ah),(.bool ai),(.int .i64 aj)]):Value)=(.agg #[(.int .i64 v),(.int .i64 w),(.bool x),(.bool y),(.bool z),(.int .i64 A)]))/\
(aC (mk d 0 none) (.int .i64 v) h λh=>
aC (add (mk d 0 none) 1) (.int .i64 w) h λh=>
aC (add (mk d 0 none) 2) (.bool x) h λh=>
aC (add (mk d 0 none) 3) (.bool y) h λh=>
aC (add (mk d 0 none) 4) (.bool z) h λh=>
aC (add (mk d 0 none) 5) (.int .i64 A) h λh=>
(aI .i64 (mk b 0 none) h λak=>
aI .i64 (add (mk b 0 none) 1) h λal=>
aB (add (mk b 0 none) 2) h λam=>
aB (add (mk b 0 none) 3) h λan=>
aB (add (mk b 0 none) 4) h λao=>
aI .i64 (add (mk b 0 none) 5) h λap=>
((.agg #[(.int .i64 ak),(.int .i64 al),(.bool am),(.bool an),(.bool ao),(.int .i64 ap)]):Value)=(.agg #[(.int .i64 i),(.int .i64 j),(.bool l),(.bool m),(.bool n),(.int .i64 o)]))/\
(aC (mk c 0 none) (.int .i64 i) h λh=>
aC (add (mk c 0 none) 1) (.int .i64 j) h λh=>
aC (add (mk c 0 none) 2) (.bool l) h λh=>
aC (add (mk c 0 none) 3) (.bool m) h λh=>
aC (add (mk c 0 none) 4) (.bool n) h λh=>
aC (add (mk c 0 none) 5) (.int .i64 o) h λh=>
aI .i64 (add (mk b 0 none) 1) h λB=>
aI .i64 (mk b 0 none) h λC=>
aI .i64 (add (mk b 0 none) 1) h λD=>
aC (mk d 0 none) (.int .i64 (if e > C then e else C)) h λh=>
aC (add (mk d 0 none) 1) (.int .i64 (if g<D then g else D)) h λh=>
aI .i64 (mk b 0 none) h λE=>
aC (mk c 0 none) (.int .i64 (if g > E then g else E)) h λh=>
aI .i64 (mk d 0 none) h λF=>
aI .i64 (add (mk d 0 none) 1) h λG=>
aB (add (mk d 0 none) 2) h λH=>
aB (add (mk d 0 none) 3) h λI=>
aB (add (mk d 0 none) 4) h λJ=>
aI .i64 (add (mk d 0 none) 5) h λL=>
aI .i64 (mk c 0 none) h λp=>
aI .i64 (add (mk c 0 none) 1) h λq=>
aB (add (mk c 0 none) 2) h λr=>
aB (add (mk c 0 none) 3) h λs=>
aB (add (mk c 0 none) 4) h λt=>
aI .i64 (add (mk c 0 none) 5) h λu=>
(aI .i64 (mk c 0 none) h λaq=>
aI .i64 (add (mk c 0 none) 1) h λar=>
aB (add (mk c 0 none) 2) h λau=>
aB (add (mk c 0 none) 3) h λav=>
aB (add (mk c 0 none) 4) h λaw=>
aI .i64 (add (mk c 0 none) 5) h λax=>
((.agg #[(.int .i64 aq),(.int .i64 ar),(.bool au),(.bool av),(.bool aw),(.int .i64 ax)]):Value)=(.agg #[(.int .i64 p),(.int .i64 q),(.bool r),(.bool s),(.bool t),(.int .i64 u)]))/\
((aI .i64 (mk d 0 none) h λay=>
aI .i64 (add (mk d 0 none) 1) h λaz=>
aB (add (mk d 0 none) 2) h λaA=>
aB (add (mk d 0 none) 3) h λaD=>
aB (add (mk d 0 none) 4) h λaE=>
aI .i64 (add (mk d 0 none) 5) h λaG=>
((.agg #[(.int .i64 ay),(.int .i64 az),(.bool aA),(.bool aD),(.bool aE),(.int .i64 aG)]):Value)=(.agg #[(.int .i64 F),(.int .i64 G),(.bool H),(.bool I),(.bool J),(.int .i64 L)]))/\
(aC (mk d 0 none) (.int .i64 F) h λh=>
aC (add (mk d 0 none) 1) (.int .i64 G) h λh=>
aC (add (mk d 0 none) 2) (.bool H) h λh=>
aC (add (mk d 0 none) 3) (.bool I) h λh=>
aC (add (mk d 0 none) 4) (.bool J) h λh=>
aC (add (mk d 0 none) 5) (.int .i64 L) h λh=>
(aI .i64 (mk c 0 none) h λaH=>
aI .i64 (add (mk c 0 none) 1) h λaJ=>
aB (add (mk c 0 none) 2) h λaK=>
aB (add (mk c 0 none) 3) h λaL=>
aB (add (mk c 0 none) 4) h λaO=>
aI .i64 (add (mk c 0 none) 5) h λaQ=>
((.agg #[(.int .i64 aH),(.int .i64 aJ),(.bool aK),(.bool aL),(.bool aO),(.int .i64 aQ)]):Value)=(.agg #[(.int .i64 p),(.int .i64 q),(.bool r),(.bool s),(.bool t),(.int .i64 u)]))/\
(aC (mk c 0 none) (.int .i64 p) h λh=>
aC (add (mk c 0 none) 1) (.int .i64 q) h λh=>
aC (add (mk c 0 none) 2) (.bool r) h λh=>
aC (add (mk c 0 none) 3) (.bool s) h λh=>
aC (add (mk c 0 none) 4) (.bool t) h λh=>
aC (add (mk c 0 none) 5) (.int .i64 u) h λh=>
aI .i64 (mk d 0 none) h λaR=>
aI .i64 (add (mk d 0 none) 1) h λaT=>
aB (add (mk d 0 none) 2) h λaU=>
aB (add (mk d 0 none) 3) h λaV=>
aB (add (mk d 0 none) 4) h λaW=>
aI .i64 (add (mk d 0 none) 5) h λaY=>
aI .i64 (mk c 0 none) h λaZ=>
aI .i64 (add (mk c 0 none) 1) h λa0=>
aB (add (mk c 0 none) 2) h λa1=>
aB (add (mk c 0 none) 3) h λa2=>
aB (add (mk c 0 none) 4) h λa3=>
aI .i64 (add (mk c 0 none) 5) h λa4=>
Q T (if e<B then e else B) U V W X aR aT aU aV aW aY aZ a0 a1 a2 a3 a4 h)))))))
def qdj_W (f:qdj_T):aX [.agg [(.i .i64),(.i .i64),.b,.b,.b,(.i .i64)],.agg [(.i .i64),(.i .i64)]] EnR:=λb c d e g i j l K _Kp=>f b c d e g i j l (λm n o p q r s t u v w x y z A B C D=>K (.tuple #[(.agg #[(.int .i64 m),(.int .i64 n),(.bool o),(.bool p),(.bool q),(.int .i64 r)]),(.agg #[(.int .i64 s),(.int .i64 t),(.bool u),(.bool v),(.bool w),(.int .i64 x)]),(.agg #[(.int .i64 y),(.int .i64 z),(.bool A),(.bool B),(.bool C),(.int .i64 D)])]))
abbrev qdk_T:=Int->Int->Bool->Bool->Bool->Int->(Int->Int->Bool->Bool->Bool->Int->Bool->AP)->AP
variable (f_qdk:qdk_T)
def qdk_A:qdk_T:=λb c d e g i Q h=>
(Q b c d e g i false h)
def qdk_W (f:qdk_T):aX [.agg [(.i .i64),(.i .i64),.b,.b,.b,(.i .i64)]] EnR:=λb c d e g i K _Kp=>f b c d e g i (λj l m n o p q=>K (.tuple #[(.agg #[(.int .i64 j),(.int .i64 l),(.bool m),(.bool n),(.bool o),(.int .i64 p)]),(.bool q)]))
abbrev qdl_T:=Sl->Int->Int->(Sl->AP)->AP
variable (f_qdl:qdl_T)
def qdl_G:qdl_T:=λi D E Q h=>
(∃ j:Sl->Int->Nat->AP,(∃ e,j Sl.nil 0 e h)/\∀ d b e h,j d b e h->
bsel (decide (b<(Int.ofNat i.len)))
(∃ g:Sl->AP,(∀ p h,g p h->
∃ q,q<e/\j p (wrap .i64 (b+1)) q h)/\
(aF i.a λc=>
bB b i.len
(aI .i64 (add c (toNat b*6)) h λr=>
aI .i64 (add (add c (toNat b*6)) 1) h λs=>
aB (add (add c (toNat b*6)) 2) h λt=>
aB (add (add c (toNat b*6)) 3) h λu=>
aB (add (add c (toNat b*6)) 4) h λv=>
aI .i64 (add (add c (toNat b*6)) 5) h λw=>
f_qdj r s t u v w D E (λx y F G H I z A J L M N B C O P R S h=>
bsel (decide (A<=z))
(aN h (.cells #[(.int .i64 r),(.int .i64 s),(.bool t),(.bool u),(.bool v),(.int .i64 w)] 123) λT h=>
dM 6 32 #[(.int .i64 0),(.int .i64 0),(.bool false),(.bool false),(.bool false),(.int .i64 0)] 123 d (Sl.mk (some (mk T 0 none)) 1 1) h λU h=>
g U h)
(∃ l:Sl->AP,(∀ m h,l m h->
∃ n:Sl->AP,(∀ o h,n o h->
bsel (decide (C > B))
(aN h (.cells #[(.int .i64 B),(.int .i64 C),(.bool O),(.bool P),(.bool R),(.int .i64 S)] 123) λV h=>
dM 6 32 #[(.int .i64 0),(.int .i64 0),(.bool false),(.bool false),(.bool false),(.int .i64 0)] 123 o (Sl.mk (some (mk V 0 none)) 1 1) h λW h=>
g W h)
(g o h))/\
(f_qdk z A J L M N (λX Y Z aa ab ac ad h=>
bsel ad
(aN h (.cells #[(.int .i64 X),(.int .i64 Y),(.bool Z),(.bool aa),(.bool ab),(.int .i64 ac)] 123) λae h=>
dM 6 32 #[(.int .i64 0),(.int .i64 0),(.bool false),(.bool false),(.bool false),(.int .i64 0)] 123 m (Sl.mk (some (mk ae 0 none)) 1 1) h λaf h=>
n af h)
(n m h)) h))/\
(bsel (decide (y > x))
(aN h (.cells #[(.int .i64 x),(.int .i64 y),(.bool F),(.bool G),(.bool H),(.int .i64 I)] 123) λag h=>
dM 6 32 #[(.int .i64 0),(.int .i64 0),(.bool false),(.bool false),(.bool false),(.int .i64 0)] 123 d (Sl.mk (some (mk ag 0 none)) 1 1) h λah h=>
l ah h)
(l d h)))) h)))
(f_qcv d (λai h=>
Q ai h) h))
def qdl_A:qdl_T:=qdl_G qcv_A qdj_A qdk_A
def qdl_W (f:qdl_T):aX [.c .s,.agg [(.i .i64),(.i .i64)],.fn 143 [] []] EnR:=λc d e K _Kp=>f c d e (λb=>K (.slice b.a b.len b.cap))
abbrev qdm_T:=Sl->Int->Int->(Sl->Int->AP)->AP
variable (f_qdm:qdm_T)
def qdm_G:qdm_T:=λb c d Q h=>
(f_qcm c d (λe h=>
bsel (!e)
(Q Sl.nil 1 h)
(f_qco b (λg h=>
bsel (!g)
(Q Sl.nil 3 h)
(f_qdl b c d (λi h=>
f_qcw i (λj l h=>
Q j l h) h) h)) h)) h)
def qdm_A:qdm_T:=qdm_G qcm_A qco_A qcw_A qdl_A
def qdm_W (f:qdm_T):aX [.c .s,.agg [(.i .i64),(.i .i64)]] EnR:=λc d e K _Kp=>f c d e (λb g=>K (.tuple #[(.slice b.a b.len b.cap),(.int .i64 g)]))
abbrev qdn_T:=Int->Int->Bool->Bool->Bool->Int->Option Addr->(Bool->AP)->AP
variable (f_qdn:qdn_T)
def qdn_A:qdn_T:=λc d _p2 _p3 _p4 e b Q h=>
(bsel (e==1)
(aF b λg=>
aI .i64 (add g 1) h λi=>
bsel (decide (c<i))
(aF b λj=>
aI .i64 j h λl=>
Q (decide (l<d)) h)
(Q false h))
(Q false h))
def qdn_W (f:qdn_T):aX [.agg [(.i .i64),(.i .i64),.b,.b,.b,(.i .i64)],.c .p] EnR:=λb c d e g i j K _Kp=>f b c d e g i j (λl=>K (.bool l))
abbrev qdo_T:=Sl->Option Addr->(Int->AP)->AP
variable (f_qdo:qdo_T)
def qdo_G:qdo_T:=λe j Q h=>
(∃ g:Int->Nat->AP,(∃ d,g 0 d h)/\∀ b d h,g b d h->
bsel (decide (b<(Int.ofNat e.len)))
(aF e.a λc=>
bB b e.len
(aI .i64 (add c (toNat b*6)) h λl=>
aI .i64 (add (add c (toNat b*6)) 1) h λm=>
aB (add (add c (toNat b*6)) 2) h λn=>
aB (add (add c (toNat b*6)) 3) h λo=>
aB (add (add c (toNat b*6)) 4) h λp=>
aI .i64 (add (add c (toNat b*6)) 5) h λq=>
f_qdn l m n o p q j (λr h=>
bsel r
(Q b h)
(∃ i,i<d/\g (wrap .i64 (b+1)) i h)) h))
(Q (-1) h))
def qdo_A:qdo_T:=qdo_G qdn_A
def qdo_W (f:qdo_T):aX [.c .s,.fn 145 [] [.p]] EnR:=λb c K _Kp=>f b c (λd=>K (.int .i64 d))
abbrev qdp_T:=Sl->Option Addr->(Bool->AP)->AP
variable (f_qdp:qdp_T)
def qdp_G:qdp_T:=λb c Q h=>
(f_qdo b c (λd h=>
Q (decide (d>=0)) h) h)
def qdp_A:qdp_T:=qdp_G qdo_A
def qdp_W (f:qdp_T):aX [.c .s,.fn 145 [] [.p]] EnR:=λb c K _Kp=>f b c (λd=>K (.bool d))
abbrev qdq_T:=Option Addr->Int->Int->(Bool->AP)->AP
variable (f_qdq:qdq_T)
def qdq_G:qdq_T:=λg l m Q h=>
(aN h (.cells #[(.int .i64 l),(.int .i64 m)] 84) λe h=>
aF g λn=>
aM (add n 3) h λo=>
rgA h o λi h=>
∃ d:Nat->AP,(∃ b,d b h)/\∀ b h,d b h->
aNx h i (λh=>
aF g λp=>
aS (add p 2) h λq=>
f_qdp q (some (mk e 0 none)) (λr h=>
Q r h) h) λs _ h=>
∃ t:Int,(s:Value)=(.int .i64 t)/\
(aEy h i λj _=>
aI .i64 (mk e 0 none) h λu=>
bsel (decide (j>=u))
(aI .i64 (add (mk e 0 none) 1) h λv=>
bsel (decide (j<v))
(Q true h)
(∃ c,c<b/\d c h))
(∃ c,c<b/\d c h)))
def qdq_A:qdq_T:=qdq_G qdp_A
def qdq_W (f:qdq_T):aX [.c .p,.agg [(.i .i64),(.i .i64)]] EnR:=λb c d K _Kp=>f b c d (λe=>K (.bool e))
abbrev qdr_T:=Option Addr->Int->Int->(Int->Int->AP)->AP
variable (f_qdr:qdr_T)
def qdr_G:qdr_T:=λl c m Q h=>
(f_qbm l c m (λn h=>
bsel (n != 0)
(Q 0 n h)
(∃ g:Int->Int->Nat->AP,(∃ d,g 0 (wrap .i64 (m-1)) d h)/\∀ e b d h,g e b d h->
bsel (decide (b>=0))
(∃ i:Int->AP,(∀ o h,i o h->
∃ p,p<d/\g o (wrap .i64 (b-1)) p h)/\
(aF l λq=>
aM (add q 2) h λr=>
lG h r .i64 (wrap .i64 (wrap .u64 (Int.tdiv (wrap .u64 (c+(wrap .u64 b))) 4096))) λs=>
∃ j:Option Addr,((s.getD (.pointer none)):Value)=(.pointer j)/\
(bsel (!j.isNone)
(aF j λt=>
bB (Int.tmod (wrap .u64 (c+(wrap .u64 b))) 4096) 4096
(aI .u8 (add t (toNat (Int.tmod (wrap .u64 (c+(wrap .u64 b))) 4096)*1)) h λu=>
i (bits .or .u64 (wrap .u64 (e*2 ^ (8:Nat))) (wrap .u64 u)) h))
(i (wrap .u64 (e*2 ^ (8:Nat))) h))))
(Q e 0 h))) h)
def qdr_A:qdr_T:=qdr_G qbm_A
def qdr_W (f:qdr_T):aX [.c .p,.c (.i .u64),.c (.i .i64)] EnR:=λb c d K _Kp=>f b c d (λe g=>K (.tuple #[(.int .u64 e),(.int .i64 g)]))
abbrev qds_T:=Int->(Bool->Bool->Bool->Bool->Bool->Bool->Bool->Bool->Int->AP)->AP
variable (f_qds:qds_T)
def qds_G:qds_T:=λg Q h=>
(aN h (.cells #[(.bool false),(.bool false),(.bool false),(.bool false),(.bool false),(.bool false),(.bool false),(.bool false),(.int .i64 0)] 148) λb h=>
aC (mk b 0 none) (.bool false) h λh=>
aC (add (mk b 0 none) 1) (.bool false) h λh=>
aC (add (mk b 0 none) 2) (.bool false) h λh=>
aC (add (mk b 0 none) 3) (.bool false) h λh=>
aC (add (mk b 0 none) 4) (.bool false) h λh=>
aC (add (mk b 0 none) 5) (.bool false) h λh=>
aC (add (mk b 0 none) 6) (.bool false) h λh=>
aC (add (mk b 0 none) 7) (.bool false) h λh=>
aC (add (mk b 0 none) 8) (.int .i64 (wrap .i64 (bits .and .u64 (Int.fdiv g (2 ^ (12:Nat))) 1048575))) h λh=>
f_qbi (some (mk b 0 none)) (λl m n o p q r s h=>
∃ e:Int->Nat->AP,(∃ d,e 0 d h)/\∀ c d h,e c d h->
bsel (decide (c<8))
(bB c 8
(geP [(.pointer l),(.pointer m),(.pointer n),(.pointer o),(.pointer p),(.pointer q),(.pointer r),(.pointer s)] (toNat c) λt=>
f_qbj (λu v w x y z A B h=>
bB c 8
(geI .i64 [(.int .i64 u),(.int .i64 v),(.int .i64 w),(.int .i64 x),(.int .i64 y),(.int .i64 z),(.int .i64 A),(.int .i64 B)] (toNat c) λi=>
bsel (decide (i<0)) False
(aF t λC=>
aC C (.bool ((bits .and .u64 (Int.fdiv g (2 ^ (min (toNat i) 64))) 1)==1)) h λh=>
∃ j,j<d/\e (wrap .i64 (c+1)) j h))) h))
(aB (mk b 0 none) h λD=>
aB (add (mk b 0 none) 1) h λE=>
aB (add (mk b 0 none) 2) h λF=>
aB (add (mk b 0 none) 3) h λG=>
aB (add (mk b 0 none) 4) h λH=>
aB (add (mk b 0 none) 5) h λI=>
aB (add (mk b 0 none) 6) h λJ=>
aB (add (mk b 0 none) 7) h λL=>
aI .i64 (add (mk b 0 none) 8) h λM=>
Q D E F G H I J L M h)) h)
def qds_A:qds_T:=qds_G qbi_A qbj_A
def qds_W (f:qds_T):aX [.c (.i .u64)] EnR:=λb K _Kp=>f b (λc d e g i j l m n=>K (.agg #[(.bool c),(.bool d),(.bool e),(.bool g),(.bool i),(.bool j),(.bool l),(.bool m),(.int .i64 n)]))
abbrev qdt_T:=Option Addr->Option Addr->Option Addr->Int->Int->Int->(Bool->Bool->Bool->Bool->Bool->Bool->Bool->Bool->Int->AP)->AP
variable (f_qdt:qdt_T)
def qdt_G:qdt_T:=λb _p1 _p2 _p3 c d Q h=>
(f_qbl c d (λe h=>
f_qdr b e 8 (λg _ h=>
f_qds g (λi j l m n o p q r h=>
Q i j l m n o p q r h) h) h) h)
def qdt_A:qdt_T:=qdt_G qbl_A qdr_A qds_A
def qdt_W (f:qdt_T):aX [.agg [.p,.p,.p,(.i .i64)],.c (.i .i64),.c (.i .i64)] EnR:=λb c d e g i K _Kp=>f b c d e g i (λj l m n o p q r s=>K (.agg #[(.bool j),(.bool l),(.bool m),(.bool n),(.bool o),(.bool p),(.bool q),(.bool r),(.int .i64 s)]))
abbrev qdu_T:=Int->Option Addr->(AH->Prop)->AP
variable (f_qdu:qdu_T)
def qdu_A:qdu_T:=λd c Q h=>
(aF c λe=>
aS e h λg=>
aN h (.cells #[(.int .i64 d)] 3) λi h=>
dM 1 8 #[(.int .i64 0)] 3 g (Sl.mk (some (mk i 0 none)) 1 1) h λb h=>
aF c λj=>
aC j (.slice b.a b.len b.cap) h λh=>
Q h)
def qdu_W (f:qdu_T):aX [.c (.i .i64),.c .p] EnR:=λb c K _Kp=>f b c (K (.tuple #[]))
abbrev qdv_T:=Option Addr->Option Addr->Option Addr->Int->Int->Int->Int->Option Addr->(AH->Prop)->AP
variable (f_qdv:qdv_T)
def qdv_G (f_self:qdv_T) (f_qdt:qdt_T) (f_qdu:qdu_T) (j:Option Addr) (l:Option Addr) (m:Option Addr) (n:Int) (r:Int) (e:Int) (o:Int) (p:Option Addr) (Q:AH->Prop) (h:AH):Prop:=
(∃ g:Int->Nat->AP,(∃ c,g 0 c h)/\∀ b c h,g b c h->
bsel (decide (b<512))
(∃ d:AH->Prop,(∀ h,d h->
∃ q,q<c/\g (wrap .i64 (b+1)) q h)/\
(∃ i:AH->Prop,(∀ h,i h->
f_qdt j l m n r b (λs _ _ _ _ _ _ _ t h=>
bsel (!s)
(d h)
(bsel (e==1)
(f_qdu (bits .or .i64 (wrap .i64 (o*2 ^ (9:Nat))) b) p (λh=>
d h) h)
(f_self j l m n t (wrap .i64 (e-1)) (bits .or .i64 (wrap .i64 (o*2 ^ (9:Nat))) b) p (λh=>
d h) h))) h)/\
(bsel (e==4)
(bsel (decide (b>=256))
(Q h)
(i h))
(i h))))
(Q h))
def qdv_A:Nat->qdv_T
 | 0=>λ_ _ _ _ _ _ _ _ _ _=>False
 | k+1=>qdv_G (qdv_A k) qdt_A qdu_A
def fB:qdv_T:=λx0 x1 x2 x3 x4 x5 x6 x7 Q h=>∃ k,qdv_A k x0 x1 x2 x3 x4 x5 x6 x7 Q h
def qdv_W (f:qdv_T):aX [.agg [.p,.p,.p,(.i .i64)],.c (.i .i64),.c (.i .i64),.c (.i .i64),.fn 153 [] [.p]] EnR:=λb c d e g i j l K _Kp=>f b c d e g i j l (K (.tuple #[]))
abbrev qdw_T:=Option Addr->Option Addr->Option Addr->Int->Int->(Sl->AP)->AP
variable (f_qdw:qdw_T)
def qdw_G:qdw_T:=λc d e g i Q h=>
(aN h (.cells #[(.slice none 0 0)] 32) λb h=>
f_qdv c d e g i 4 0 (some (mk b 0 none)) (λh=>
aS (mk b 0 none) h λj=>
Q j h) h)
def qdw_A:qdw_T:=qdw_G fB
def qdw_W (f:qdw_T):aX [.agg [.p,.p,.p,(.i .i64)],.c (.i .i64)] EnR:=λc d e g i K _Kp=>f c d e g i (λb=>K (.slice b.a b.len b.cap))
abbrev qdx_T:=Int->Option Addr->(Bool->AP)->AP
variable (f_qdx:qdx_T)
def qdx_A:qdx_T:=λb c Q h=>
(aF c λd=>
aI .i64 d h λe=>
bsel (decide (b<e))
(Q true h)
(aF c λg=>
aI .i64 (add g 1) h λi=>
Q (decide (b>=i)) h))
def qdx_W (f:qdx_T):aX [.c (.i .i64),.c .p] EnR:=λb c K _Kp=>f b c (λd=>K (.bool d))
abbrev qdy_T:=Sl->Option Addr->(Int->AP)->AP
variable (f_qdy:qdy_T)
def qdy_G:qdy_T:=λd i Q h=>
(∃ e:Int->Nat->AP,(∃ c,e 0 c h)/\∀ b c h,e b c h->
bsel (decide (b<(Int.ofNat d.len)))
(aF d.a λj=>
bB b d.len
(aI .i64 (add j (toNat b*1)) h λl=>
f_qdx l i (λm h=>
bsel m
(Q b h)
(∃ g,g<c/\e (wrap .i64 (b+1)) g h)) h))
(Q (-1) h))
def qdy_A:qdy_T:=qdy_G qdx_A
def qdy_W (f:qdy_T):aX [.c .s,.fn 147 [] [.p]] EnR:=λb c K _Kp=>f b c (λd=>K (.int .i64 d))
abbrev qdz_T:=Sl->Option Addr->(Sl->AP)->AP
variable (f_qdz:qdz_T)
def qdz_G:qdz_T:=λb m Q h=>
(f_qdy b m (λg h=>
bsel (g==(-1))
(Q b h)
(∃ i:Int->Int->Nat->AP,(∃ e,i g (wrap .i64 (g+1)) e h)/\∀ c d e h,i c d e h->
bsel (decide (d<(Int.ofNat b.len)))
(∃ j:Int->AP,(∀ n h,j n h->
∃ o,o<e/\i n (wrap .i64 (d+1)) o h)/\
(aF b.a λq=>
bB d b.len
(aI .i64 (add q (toNat d*1)) h λp=>
f_qdx p m (λr h=>
bsel (!r)
(aF b.a λs=>
bB c b.len
(aC (add s (toNat c*1)) (.int .i64 p) h λh=>
j (wrap .i64 (c+1)) h))
(j c h)) h)))
(bB c (b.len+1)
(aG0 #[(.int .i64 0)] (Sl.mk (if b.cap=(toNat c) then b.a else Option.map (λl=>add l ((toNat c)*1)) b.a) (b.len-(toNat c)) (b.cap-(toNat c))) h λh=>
bB c (b.cap+1)
(Q (Sl.mk (if b.cap=0 then b.a else Option.map (λl=>add l (0*1)) b.a) (toNat c) b.cap) h))))) h)
def qdz_A:qdz_T:=qdz_G qdx_A qdy_A
def qdz_W (f:qdz_T):aX [.c .s,.fn 147 [] [.p]] EnR:=λc d K _Kp=>f c d (λb=>K (.slice b.a b.len b.cap))
abbrev qea_T:=Option Addr->Option Addr->Int->Int->(Sl->AP)->AP
variable (f_qea:qea_T)
def qea_G:qea_T:=λe b g i Q h=>
(aN h (.cells #[(.int .i64 g),(.int .i64 i)] 84) λj h=>
aF b λl=>
aF b λc=>
aI .i64 l h λm=>
aI .i64 (add c 1) h λd=>
f_qat e m (λn o p q h=>
(aI .i64 (add c 1) h λr=>
((.int .i64 r):Value)=(.int .i64 d))/\
(f_qdw n o p q d (λs h=>
f_qdz s (some (mk j 0 none)) (λt h=>
Q t h) h) h)) h)
def qea_A:qea_T:=qea_G qat_A qdw_A qdz_A
def qea_W (f:qea_T):aX [.c .p,.c .p,.agg [(.i .i64),(.i .i64)]] EnR:=λc d e g K _Kp=>f c d e g (λb=>K (.slice b.a b.len b.cap))
abbrev qeb_T:=Sl->Int->(Int->Int->Bool->Bool->Bool->Int->Bool->AP)->AP
variable (f_qeb:qeb_T)
def qeb_A:qeb_T:=λi q Q h=>
(∃ g:Int->Int->Int->Bool->Bool->Bool->Int->Nat->AP,(∃ d,g 0 0 0 false false false 0 d h)/\∀ b j l m n o p d h,g b j l m n o p d h->
bsel (decide (b<(Int.ofNat i.len)))
(aF i.a λc=>
bB b i.len
(aI .i64 (add c (toNat b*6)) h λr=>
aI .i64 (add (add c (toNat b*6)) 1) h λs=>
aB (add (add c (toNat b*6)) 2) h λt=>
aB (add (add c (toNat b*6)) 3) h λu=>
aB (add (add c (toNat b*6)) 4) h λv=>
aI .i64 (add (add c (toNat b*6)) 5) h λw=>
bsel (decide (r<=q))
(bsel (decide (q<s))
(Q r s t u v w true h)
(∃ e,e<d/\g (wrap .i64 (b+1)) j l m n o p e h))
(∃ e,e<d/\g (wrap .i64 (b+1)) j l m n o p e h)))
(Q 0 0 (false:Bool) (false:Bool) (false:Bool) 0 false h))
def qeb_W (f:qeb_T):aX [.c .s,.c (.i .i64)] EnR:=λb c K _Kp=>f b c (λd e g i j l m=>K (.tuple #[(.agg #[(.int .i64 d),(.int .i64 e),(.bool g),(.bool i),(.bool j),(.int .i64 l)]),(.bool m)]))
abbrev qec_T:=Int->(Int->Int->Int->Int->Int->AP)->AP
variable (f_qec:qec_T)
def qec_A:qec_T:=λg Q h=>
(aN h (.cells #[(.int .i64 0),(.int .i64 0),(.int .i64 0),(.int .i64 0)] 141) λc h=>
∃ e:Int->Nat->AP,(∃ d,e 0 d h)/\∀ b d h,e b d h->
bsel (decide (b<4))
(bsel (decide ((wrap .i64 (39-(wrap .i64 (9*b))))<0)) False
(bB b 4
(aC (add (mk c 0 none) (toNat b*1)) (.int .i64 (wrap .i64 (bits .and .u64 (Int.fdiv g (2 ^ (min (toNat (wrap .i64 (39-(wrap .i64 (9*b))))) 64))) 511))) h λh=>
∃ i,i<d/\e (wrap .i64 (b+1)) i h)))
(aI .i64 (mk c 0 none) h λj=>
aI .i64 (add (mk c 0 none) 1) h λl=>
aI .i64 (add (mk c 0 none) 2) h λm=>
aI .i64 (add (mk c 0 none) 3) h λn=>
Q j l m n (wrap .i64 (bits .and .u64 g 4095)) h))
def qec_W (f:qec_T):aX [.c (.i .u64)] EnR:=λb K _Kp=>f b (λc d e g i=>K (.tuple #[(.agg #[(.int .i64 c),(.int .i64 d),(.int .i64 e),(.int .i64 g)]),(.int .i64 i)]))
abbrev qed_T:=Int->(Int->Int->Int->Int->AP)->AP
variable (f_qed:qed_T)
def qed_G:qed_T:=λb Q h=>
(f_qec (wrap .u64 ((wrap .u64 b)*4096)) (λc d e g _ h=>
Q c d e g h) h)
def qed_A:qed_T:=qed_G qec_A
def qed_W (f:qed_T):aX [.c (.i .i64)] EnR:=λb K _Kp=>f b (λc d e g=>K (.agg #[(.int .i64 c),(.int .i64 d),(.int .i64 e),(.int .i64 g)]))
abbrev qee_T:=Option Addr->Option Addr->Option Addr->Int->Int->Int->(Sl->AP)->AP
variable (f_qee:qee_T)
def qee_G:qee_T:=λm n o p q r Q h=>
(f_qed r (λs t u v h=>
aN h (.cells #[(.int .i64 0),(.int .i64 0),(.int .i64 0),(.int .i64 0)] 141) λd h=>
aC (mk d 0 none) (.int .i64 s) h λh=>
aC (add (mk d 0 none) 1) (.int .i64 t) h λh=>
aC (add (mk d 0 none) 2) (.int .i64 u) h λh=>
aC (add (mk d 0 none) 3) (.int .i64 v) h λh=>
aN h (.cells #[(.int .i64 q)] 3) λw h=>
∃ g:Sl->AP,(∀ j h,g j h->
Q j h)/\
(∃ i:Sl->Int->Nat->AP,(∃ e,i (Sl.mk (some (mk w 0 none)) 1 1) 0 e h)/\∀ c b e h,i c b e h->
bsel (decide (b<3))
(aF c.a λx=>
bB b c.len
(bB b 4
(aI .i64 (add x (toNat b*1)) h λy=>
aI .i64 (add (mk d 0 none) (toNat b*1)) h λz=>
f_qdt m n o p y z (λA _ _ _ _ _ _ _ B h=>
bsel (!A)
(g c h)
(aN h (.cells #[(.int .i64 B)] 3) λC h=>
dM 1 8 #[(.int .i64 0)] 3 c (Sl.mk (some (mk C 0 none)) 1 1) h λD h=>
∃ l,l<e/\i D (wrap .i64 (b+1)) l h)) h)))
(g c h))) h)
def qee_A:qee_T:=qee_G qdt_A qed_A
def qee_W (f:qee_T):aX [.agg [.p,.p,.p,(.i .i64)],.c (.i .i64),.c (.i .i64)] EnR:=λc d e g i j K _Kp=>f c d e g i j (λb=>K (.slice b.a b.len b.cap))
abbrev qef_T:=Option Addr->Option Addr->Option Addr->Int->Int->Int->(Int->Bool->Bool->Bool->Bool->AP)->AP
variable (f_qef:qef_T)
def qef_G:qef_T:=λd e g i n b Q h=>
(∃ j:Bool->Bool->Bool->AP,(∀ o p q h,j o p q h->
f_qee d e g i n b (λc h=>
bsel (decide ((Int.ofNat c.len)<4))
(Q 0 (false:Bool) (false:Bool) (false:Bool) false h)
(aF c.a λl=>
bB 3 c.len
(aI .i64 (add l 3) h λm=>
f_qed b (λr s t u h=>
(aI .i64 (add l 3) h λv=>
((.int .i64 v):Value)=(.int .i64 m))/\
(geI .i64 [(.int .i64 r),(.int .i64 s),(.int .i64 t),(.int .i64 u)] 3 λw=>
f_qdt d e g i m w (λx y z _ _ _ _ A B h=>
bsel (!x)
(Q 0 (false:Bool) (false:Bool) (false:Bool) false h)
(Q B y z ((!A):Bool) true h)) h)) h))) h)/\
(bsel (decide (b<0))
(Q 0 (false:Bool) (false:Bool) (false:Bool) false h)
(bsel (decide (b>=34359738368))
(Q 0 (false:Bool) (false:Bool) (false:Bool) false h)
(j false false false h))))
def qef_A:qef_T:=qef_G qdt_A qed_A qee_A
def qef_W (f:qef_T):aX [.agg [.p,.p,.p,(.i .i64)],.c (.i .i64),.c (.i .i64)] EnR:=λb c d e g i K _Kp=>f b c d e g i (λj l m n o=>K (.tuple #[(.int .i64 j),(.agg #[(.bool l),(.bool m),(.bool n)]),(.bool o)]))
abbrev qeg_T:=Option Addr->Int->(Bool->AP)->AP
variable (f_qeg:qeg_T)
def qeg_A:qeg_T:=λc d Q h=>
(aF c λe=>
aM (add e 2) h λg=>
lG h g .i64 d λi=>
∃ b:Option Addr,((i.getD (.pointer none)):Value)=(.pointer b)/\
(bsel b.isNone
(Q true h)
(aF b λj=>
aJP 4096 j h λl=>
aMC l (Array.replicate 4096 (.int .u8 0)) 4096 λm=>
Q m h)))
def qeg_W (f:qeg_T):aX [.c .p,.c (.i .i64)] EnR:=λb c K _Kp=>f b c (λd=>K (.bool d))
abbrev qeh_T:=Option Addr->Option Addr->Option Addr->Int->Int->Int->(Int->Int->AP)->AP
variable (f_qeh:qeh_T)
def qeh_G:qeh_T:=λd i j l o m Q h=>
(f_qef d i j l o m (λp _ _ _ r h=>
bsel (!r)
(Q 0 5 h)
(f_qed m (λs t u v h=>
f_qee d i j l o m (λc h=>
aN h (.cells #[(.int .i64 0),(.int .i64 0),(.int .i64 0),(.int .i64 0)] 141) λe h=>
aC (mk e 0 none) (.int .i64 s) h λh=>
aC (add (mk e 0 none) 1) (.int .i64 t) h λh=>
aC (add (mk e 0 none) 2) (.int .i64 u) h λh=>
aC (add (mk e 0 none) 3) (.int .i64 v) h λh=>
aF c.a λw=>
bB 3 c.len
(aI .i64 (add w 3) h λx=>
aI .i64 (add (mk e 0 none) 3) h λy=>
f_qbl x y (λz h=>
f_qbo d z 8 0 (λ_ h=>
∃ n:Int->Nat->AP,(∃ g,n 3 g h)/\∀ b g h,n b g h->
bsel (decide (b > 0))
(aF c.a λA=>
bB b c.len
(aI .i64 (add A (toNat b*1)) h λB=>
f_qeg d B (λC h=>
bsel C
(aF c.a λD=>
bB (wrap .i64 (b-1)) c.len
(bB (wrap .i64 (b-1)) 4
(aI .i64 (add D (toNat (wrap .i64 (b-1))*1)) h λE=>
aI .i64 (add (mk e 0 none) (toNat (wrap .i64 (b-1))*1)) h λF=>
f_qbl E F (λG h=>
f_qbo d G 8 0 (λ_ h=>
aF c.a λH=>
bB b c.len
(aI .i64 (add H (toNat b*1)) h λI=>
f_qbh d i j l I (λh=>
∃ q,q<g/\n (wrap .i64 (b-1)) q h) h)) h) h)))
(Q p 0 h)) h))
(Q p 0 h)) h) h)) h) h)) h)
def qeh_A:qeh_T:=qeh_G qbh_A qbl_A qbo_A qed_A qee_A qef_A qeg_A
def qeh_W (f:qeh_T):aX [.agg [.p,.p,.p,(.i .i64)],.c (.i .i64),.c (.i .i64)] EnR:=λb c d e g i K _Kp=>f b c d e g i (λj l=>K (.tuple #[(.int .i64 j),(.int .i64 l)]))
abbrev qei_T:=Option Addr->Int->(Int->Bool->AP)->AP
variable (f_qei:qei_T)
def qei_A:qei_T:=λd e Q h=>
(aF d λg=>
aM (add g 4) h λi=>
lG h i .i64 e λb=>
∃ c:Int,((b.getD (.int .i64 0)):Value)=(.int .i64 c)/\
(Q c b.isSome h))
def qei_W (f:qei_T):aX [.c .p,.c (.i .i64)] EnR:=λb c K _Kp=>f b c (λd e=>K (.tuple #[(.int .i64 d),(.bool e)]))
abbrev qej_T:=Bool->Int->Int->Int->Bool->Bool->Bool->Bool->Bool->Int->Int->(Bool->AP)->AP
variable (f_qej:qej_T)
def qej_A:qej_T:=λb c d _p3 _p4 _p5 _p6 e _p8 g i Q h=>
(bsel b
(bsel (d==i)
(bsel (c==g)
(Q true h)
(Q e h))
(Q false h))
(Q false h))
def qej_W (f:qej_T):aX [.agg [.b,(.i .i64),(.i .i64),(.i .i64),.b,.b,.b,.b,.b],.c (.i .i64),.c (.i .i64)] EnR:=λb c d e g i j l m n o K _Kp=>f b c d e g i j l m n o (λp=>K (.bool p))
abbrev qek_T:=Bool->Int->Int->Int->Bool->Bool->Bool->Bool->Bool->Option Addr->Option Addr->(Bool->AP)->AP
variable (f_qek:qek_T)
def qek_G:qek_T:=λb c d e g i j l m n o Q h=>
(aF n λp=>
aI .i64 p h λq=>
aF o λr=>
aI .i64 r h λs=>
f_qej b c d e g i j l m q s (λt h=>
Q t h) h)
def qek_A:qek_T:=qek_G qej_A
def qek_W (f:qek_T):aX [.agg [.b,(.i .i64),(.i .i64),(.i .i64),.b,.b,.b,.b,.b],.c .p,.c .p] EnR:=λb c d e g i j l m n o K _Kp=>f b c d e g i j l m n o (λp=>K (.bool p))
abbrev qel_T:=Option Addr->Option Addr->Option Addr->(AH->Prop)->AP
variable (f_qel:qel_T)
def qel_G:qel_T:=λn q r Q h=>
(∃ j:Int->Nat->AP,(∃ g,j 0 g h)/\∀ b g h,j b g h->
bsel (decide (b<8))
(∃ l:Int->Nat->AP,(∃ i,l 0 i h)/\∀ c i h,l c i h->
bsel (decide (c<2))
(∃ m:AH->Prop,(∀ h,m h->
∃ o,o<i/\l (wrap .i64 (c+1)) o h)/\
(aF n λd=>
bB b 8
(bB c 2
(aB (add (add d (toNat b*18)) (toNat c*9)) h λs=>
aI .i64 (add (add (add d (toNat b*18)) (toNat c*9)) 1) h λt=>
aI .i64 (add (add (add d (toNat b*18)) (toNat c*9)) 2) h λu=>
aI .i64 (add (add (add d (toNat b*18)) (toNat c*9)) 3) h λv=>
aB (add (add (add d (toNat b*18)) (toNat c*9)) 4) h λw=>
aB (add (add (add d (toNat b*18)) (toNat c*9)) 5) h λx=>
aB (add (add (add d (toNat b*18)) (toNat c*9)) 6) h λy=>
aB (add (add (add d (toNat b*18)) (toNat c*9)) 7) h λz=>
aB (add (add (add d (toNat b*18)) (toNat c*9)) 8) h λA=>
f_qek s t u v w x y z A q r (λB h=>
bsel B
(aF n λe=>
bB b 8
(bB c 2
(aC (add (add e (toNat b*18)) (toNat c*9)) (.bool false) h λh=>
aC (add (add (add e (toNat b*18)) (toNat c*9)) 1) (.int .i64 0) h λh=>
aC (add (add (add e (toNat b*18)) (toNat c*9)) 2) (.int .i64 0) h λh=>
aC (add (add (add e (toNat b*18)) (toNat c*9)) 3) (.int .i64 0) h λh=>
aC (add (add (add e (toNat b*18)) (toNat c*9)) 4) (.bool false) h λh=>
aC (add (add (add e (toNat b*18)) (toNat c*9)) 5) (.bool false) h λh=>
aC (add (add (add e (toNat b*18)) (toNat c*9)) 6) (.bool false) h λh=>
aC (add (add (add e (toNat b*18)) (toNat c*9)) 7) (.bool false) h λh=>
aC (add (add (add e (toNat b*18)) (toNat c*9)) 8) (.bool false) h λh=>
m h)))
(m h)) h))))
(∃ p,p<g/\j (wrap .i64 (b+1)) p h))
(Q h))
def qel_A:qel_T:=qel_G qek_A
def qel_W (f:qel_T):aX [.c .p,.fn 186 [] [.p,.p]] EnR:=λb c d K _Kp=>f b c d (K (.tuple #[]))
abbrev qem_T:=Option Addr->Int->Int->(AH->Prop)->AP
variable (f_qem:qem_T)
def qem_G:qem_T:=λb c d Q h=>
(aN h (.cells #[(.int .i64 c)] 3) λe h=>
aN h (.cells #[(.int .i64 d)] 3) λg h=>
f_qel b (some (mk e 0 none)) (some (mk g 0 none)) (λh=>
Q h) h)
def qem_A:qem_T:=qem_G qel_A
def qem_W (f:qem_T):aX [.c .p,.c (.i .i64),.c (.i .i64)] EnR:=λb c d K _Kp=>f b c d (K (.tuple #[]))
abbrev qen_T:=Option Addr->Int->Int->(AH->Prop)->AP
variable (f_qen:qen_T)
def qen_G:qen_T:=λb c d Q h=>
(aF b λe=>
aP (add e 4) h λg=>
f_qei g c (λi j h=>
bsel j
(aF b λl=>
aP (add l 3) h λm=>
f_qem m i d (λh=>
Q h) h)
(Q h)) h)
def qen_A:qen_T:=qen_G qei_A qem_A
def qen_W (f:qen_T):aX [.c .p,.c (.i .i64),.c (.i .i64)] EnR:=λb c d K _Kp=>f b c d (K (.tuple #[]))
abbrev qeo_T:=Option Addr->Int->Option Addr->Int->(AH->Prop)->AP
variable (f_qeo:qeo_T)
def qeo_G:qeo_T:=λd j b e Q h=>
(aF b λl=>
aS (add l 2) h λm=>
f_qeb m e (λ_ _ _ _ _ n _ h=>
aF b λo=>
aF b λg=>
aI .i64 o h λp=>
aI .i64 (add g 1) h λi=>
f_qat d p (λq r s t h=>
(aI .i64 (add g 1) h λu=>
((.int .i64 u):Value)=(.int .i64 i))/\
(f_qeh q r s t i e (λv w h=>
∃ c:AH->Prop,(∀ h,c h->
f_qen d j e (λh=>
Q h) h)/\
(bsel (w==0)
(bsel (n==0)
(aF b λx=>
aI .i64 x h λy=>
f_qat d y (λz A B C h=>
f_qbh z A B C v (λh=>
c h) h) h)
(c h))
(c h))) h)) h) h)
def qeo_A:qeo_T:=qeo_G qat_A qbh_A qeb_A qeh_A qen_A
def qeo_W (f:qeo_T):aX [.c .p,.c (.i .i64),.c .p,.c (.i .i64)] EnR:=λb c d e K _Kp=>f b c d e (K (.tuple #[]))
abbrev qep_T:=Option Addr->Int->Int->Int->(Int->AP)->AP
variable (f_qep:qep_T)
def qep_G:qep_T:=λe n g i Q h=>
(aF e λq=>
aM (add q 6) h λr=>
lG h r .i64 n λs=>
∃ b:Option Addr,((s.getD (.pointer none)):Value)=(.pointer b)/\
(bsel b.isNone
(Q 5 h)
(aF b λt=>
aS (add t 2) h λu=>
f_qdm u g i (λj o h=>
bsel (o != 0)
(Q o h)
(f_qdq b g i (λv h=>
bsel v
(Q 11 h)
(f_qea e b g i (λl h=>
∃ m:Int->Nat->AP,(∃ d,m 0 d h)/\∀ c d h,m c d h->
bsel (decide (c<(Int.ofNat l.len)))
(aF l.a λw=>
bB c l.len
(aI .i64 (add w (toNat c*1)) h λx=>
f_qeo e n b x (λh=>
∃ p,p<d/\m (wrap .i64 (c+1)) p h) h))
(aF b λy=>
aC (add y 2) (.slice j.a j.len j.cap) h λh=>
Q 0 h)) h)) h)) h)))
def qep_A:qep_T:=qep_G qdm_A qdq_A qea_A qeo_A
def qep_W (f:qep_T):aX [.c .p,.c (.i .i64),.agg [(.i .i64),(.i .i64)]] EnR:=λb c d e K _Kp=>f b c d e (λg=>K (.int .i64 g))
abbrev qeq_T:=Sl->Int->Int->(Int->AP)->AP
variable (f_qeq:qeq_T)
def qeq_A:qeq_T:=λl d e Q h=>
(∃ m:Int->Int->Nat->AP,(∃ g,m 0 0 g h)/\∀ n b g h,m n b g h->
bsel (decide (b<(Int.ofNat l.len)))
(aF l.a λc=>
bB b l.len
(aI .i64 (add c (toNat b*6)) h λi=>
aI .i64 (add (add c (toNat b*6)) 1) h λj=>
aB (add (add c (toNat b*6)) 2) h λ_=>
aB (add (add c (toNat b*6)) 3) h λ_=>
aB (add (add c (toNat b*6)) 4) h λ_=>
aI .i64 (add (add c (toNat b*6)) 5) h λ_=>
∃ o,o<g/\m (wrap .i64 (n+(if (wrap .i64 ((if e<j then e else j)-(if d > i then d else i))) > 0 then (wrap .i64 ((if e<j then e else j)-(if d > i then d else i))) else 0))) (wrap .i64 (b+1)) o h))
(Q n h))
def qeq_W (f:qeq_T):aX [.c .s,.agg [(.i .i64),(.i .i64)]] EnR:=λb c d K _Kp=>f b c d (λe=>K (.int .i64 e))
abbrev qer_T:=Int->Int->Bool->Bool->Bool->Int->Option Addr->(Int->Int->Bool->Bool->Bool->Int->Bool->AP)->AP
variable (f_qer:qer_T)
def qer_A:qer_T:=λc d _p2 _p3 _p4 e g Q h=>
(aF g λb=>
aB b h λi=>
aB (add b 1) h λj=>
aB (add b 2) h λl=>
Q c d i j l e true h)
def qer_W (f:qer_T):aX [.agg [(.i .i64),(.i .i64),.b,.b,.b,(.i .i64)],.c .p] EnR:=λb c d e g i j K _Kp=>f b c d e g i j (λl m n o p q r=>K (.tuple #[(.agg #[(.int .i64 l),(.int .i64 m),(.bool n),(.bool o),(.bool p),(.int .i64 q)]),(.bool r)]))
abbrev qes_T:=Sl->Int->Int->Option Addr->(Sl->AP)->AP
variable (f_qes:qes_T)
def qes_G:qes_T:=λi D E F Q h=>
(∃ j:Sl->Int->Nat->AP,(∃ e,j Sl.nil 0 e h)/\∀ d b e h,j d b e h->
bsel (decide (b<(Int.ofNat i.len)))
(∃ g:Sl->AP,(∀ p h,g p h->
∃ q,q<e/\j p (wrap .i64 (b+1)) q h)/\
(aF i.a λc=>
bB b i.len
(aI .i64 (add c (toNat b*6)) h λr=>
aI .i64 (add (add c (toNat b*6)) 1) h λs=>
aB (add (add c (toNat b*6)) 2) h λt=>
aB (add (add c (toNat b*6)) 3) h λu=>
aB (add (add c (toNat b*6)) 4) h λv=>
aI .i64 (add (add c (toNat b*6)) 5) h λw=>
f_qdj r s t u v w D E (λx y G H I J z A L M N O B C P R S T h=>
bsel (decide (A<=z))
(aN h (.cells #[(.int .i64 r),(.int .i64 s),(.bool t),(.bool u),(.bool v),(.int .i64 w)] 123) λU h=>
dM 6 32 #[(.int .i64 0),(.int .i64 0),(.bool false),(.bool false),(.bool false),(.int .i64 0)] 123 d (Sl.mk (some (mk U 0 none)) 1 1) h λV h=>
g V h)
(∃ l:Sl->AP,(∀ m h,l m h->
∃ n:Sl->AP,(∀ o h,n o h->
bsel (decide (C > B))
(aN h (.cells #[(.int .i64 B),(.int .i64 C),(.bool P),(.bool R),(.bool S),(.int .i64 T)] 123) λW h=>
dM 6 32 #[(.int .i64 0),(.int .i64 0),(.bool false),(.bool false),(.bool false),(.int .i64 0)] 123 o (Sl.mk (some (mk W 0 none)) 1 1) h λX h=>
g X h)
(g o h))/\
(f_qer z A L M N O F (λY Z aa ab ac ad ae h=>
bsel ae
(aN h (.cells #[(.int .i64 Y),(.int .i64 Z),(.bool aa),(.bool ab),(.bool ac),(.int .i64 ad)] 123) λaf h=>
dM 6 32 #[(.int .i64 0),(.int .i64 0),(.bool false),(.bool false),(.bool false),(.int .i64 0)] 123 m (Sl.mk (some (mk af 0 none)) 1 1) h λag h=>
n ag h)
(n m h)) h))/\
(bsel (decide (y > x))
(aN h (.cells #[(.int .i64 x),(.int .i64 y),(.bool G),(.bool H),(.bool I),(.int .i64 J)] 123) λah h=>
dM 6 32 #[(.int .i64 0),(.int .i64 0),(.bool false),(.bool false),(.bool false),(.int .i64 0)] 123 d (Sl.mk (some (mk ah 0 none)) 1 1) h λai h=>
l ai h)
(l d h)))) h)))
(f_qcv d (λaj h=>
Q aj h) h))
def qes_A:qes_T:=qes_G qcv_A qdj_A qer_A
def qes_W (f:qes_T):aX [.c .s,.agg [(.i .i64),(.i .i64)],.fn 150 [] [.p]] EnR:=λc d e g K _Kp=>f c d e g (λb=>K (.slice b.a b.len b.cap))
abbrev qet_T:=Sl->Int->Int->Bool->Bool->Bool->(Sl->Int->AP)->AP
variable (f_qet:qet_T)
def qet_G:qet_T:=λd b c e g i Q h=>
(aN h (.cells #[(.bool e),(.bool g),(.bool i)] 49) λj h=>
f_qcm b c (λl h=>
bsel (!l)
(Q Sl.nil 1 h)
(f_qco d (λm h=>
bsel (!m)
(Q Sl.nil 3 h)
(f_qeq d b c (λn h=>
bsel (n != (wrap .i64 (c-b)))
(Q Sl.nil 5 h)
(f_qes d b c (some (mk j 0 none)) (λo h=>
f_qcw o (λp q h=>
Q p q h) h) h)) h)) h)) h)
def qet_A:qet_T:=qet_G qcm_A qco_A qcw_A qeq_A qes_A
def qet_W (f:qet_T):aX [.c .s,.agg [(.i .i64),(.i .i64)],.agg [.b,.b,.b]] EnR:=λc d e g i j K _Kp=>f c d e g i j (λb l=>K (.tuple #[(.slice b.a b.len b.cap),(.int .i64 l)]))
abbrev qeu_T:=Int->Bool->Bool->Bool->(Bool->Bool->Bool->Bool->Bool->Bool->Bool->Bool->Int->AP)->AP
variable (f_qeu:qeu_T)
def qeu_A:qeu_T:=λb c d e Q h=>
(Q (true:Bool) c d (false:Bool) (false:Bool) (false:Bool) (false:Bool) ((!e):Bool) b h)
def qeu_W (f:qeu_T):aX [.c (.i .i64),.agg [.b,.b,.b]] EnR:=λb c d e K _Kp=>f b c d e (λg i j l m n o p q=>K (.agg #[(.bool g),(.bool i),(.bool j),(.bool l),(.bool m),(.bool n),(.bool o),(.bool p),(.int .i64 q)]))
abbrev qev_T:=Option Addr->Option Addr->Option Addr->Int->Int->Int->Bool->Bool->Bool->(Int->AP)->AP
variable (f_qev:qev_T)
def qev_G:qev_T:=λb c d e l g n o p Q h=>
(f_qef b c d e l g (λq _ _ _ r h=>
bsel (!r)
(Q 5 h)
(f_qee b c d e l g (λm h=>
aF m.a λi=>
bB 3 m.len
(aI .i64 (add i 3) h λj=>
f_qed g (λs t u v h=>
(aI .i64 (add i 3) h λw=>
((.int .i64 w):Value)=(.int .i64 j))/\
(geI .i64 [(.int .i64 s),(.int .i64 t),(.int .i64 u),(.int .i64 v)] 3 λx=>
f_qeu q n o p (λy z A B C D E F G h=>
(aI .i64 (add i 3) h λH=>
((.int .i64 H):Value)=(.int .i64 j))/\
(f_qbp b c d e j x y z A B C D E F G (λh=>
Q 0 h) h)) h)) h)) h)) h)
def qev_A:qev_T:=qev_G qbp_A qed_A qee_A qef_A qeu_A
def qev_W (f:qev_T):aX [.agg [.p,.p,.p,(.i .i64)],.c (.i .i64),.c (.i .i64),.agg [.b,.b,.b]] EnR:=λb c d e g i j l m K _Kp=>f b c d e g i j l m (λn=>K (.int .i64 n))
abbrev qew_T:=Option Addr->Int->Int->Int->Bool->Bool->Bool->(Int->AP)->AP
variable (f_qew:qew_T)
def qew_G:qew_T:=λd n g i o p q Q h=>
(aF d λw=>
aM (add w 6) h λx=>
lG h x .i64 n λy=>
∃ b:Option Addr,((y.getD (.pointer none)):Value)=(.pointer b)/\
(bsel b.isNone
(Q 5 h)
(aF b λz=>
aS (add z 2) h λA=>
f_qet A g i o p q (λj r h=>
bsel (r != 0)
(Q r h)
(f_qdq b g i (λB h=>
bsel B
(Q 11 h)
(aF b λC=>
aC (add C 2) (.slice j.a j.len j.cap) h λh=>
f_qea d b g i (λl h=>
∃ m:Int->Nat->AP,(∃ e,m 0 e h)/\∀ c e h,m c e h->
bsel (decide (c<(Int.ofNat l.len)))
(aF l.a λD=>
bB c l.len
(aI .i64 (add D (toNat c*1)) h λs=>
aF b λE=>
aF b λt=>
aI .i64 E h λF=>
aI .i64 (add t 1) h λu=>
f_qat d F (λG H I J h=>
(aI .i64 (add t 1) h λL=>
((.int .i64 L):Value)=(.int .i64 u))/\
(f_qev G H I J u s o p q (λ_ h=>
f_qen d n s (λh=>
∃ v,v<e/\m (wrap .i64 (c+1)) v h) h) h)) h))
(Q 0 h)) h)) h)) h)))
def qew_A:qew_T:=qew_G qat_A qdq_A qea_A qen_A qet_A qev_A
def qew_W (f:qew_T):aX [.c .p,.c (.i .i64),.agg [(.i .i64),(.i .i64)],.agg [.b,.b,.b]] EnR:=λb c d e g i j K _Kp=>f b c d e g i j (λl=>K (.int .i64 l))
abbrev qex_T:=Bool->Bool->Bool->Bool->Bool->Bool->(Bool->AP)->AP
variable (f_qex:qex_T)
def qex_A:qex_T:=λg d b i e c Q h=>
(bsel i
(bsel (!g)
(Q false h)
(bsel e
(bsel (!d)
(Q false h)
(bsel c
(Q (!(!b)) h)
(Q true h)))
(bsel c
(Q (!(!b)) h)
(Q true h))))
(bsel e
(bsel (!d)
(Q false h)
(bsel c
(Q (!(!b)) h)
(Q true h)))
(bsel c
(Q (!(!b)) h)
(Q true h))))
def qex_W (f:qex_T):aX [.agg [.b,.b,.b],.agg [.b,.b,.b]] EnR:=λb c d e g i K _Kp=>f b c d e g i (λj=>K (.bool j))
abbrev qey_T:=Option Addr->Option Addr->Option Addr->Int->Int->Int->Int->Bool->Bool->Bool->(Int->AP)->AP
variable (f_qey:qey_T)
def qey_G:qey_T:=λe g i j H o s I J L Q h=>
(∃ y:AH->Prop,(∀ h,y h->
f_qed o (λM N O P h=>
f_qee e g i j H o (λl h=>
aN h (.cells #[(.int .i64 0),(.int .i64 0),(.int .i64 0),(.int .i64 0)] 141) λc h=>
aC (mk c 0 none) (.int .i64 M) h λh=>
aC (add (mk c 0 none) 1) (.int .i64 N) h λh=>
aC (add (mk c 0 none) 2) (.int .i64 O) h λh=>
aC (add (mk c 0 none) 3) (.int .i64 P) h λh=>
∃ t:AH->Prop,(∀ h,t h->
∃ u:Sl->Int->Nat->AP,(∃ p,u Sl.nil 0 p h)/\∀ d v p h,u d v p h->
bsel (decide (v<(wrap .i64 (4-(Int.ofNat l.len)))))
(f_qbf e g i j (λR z h=>
bsel (z != 0)
(∃ w:Int->Nat->AP,(∃ q,w 0 q h)/\∀ m q h,w m q h->
bsel (decide (m<(Int.ofNat d.len)))
(aF d.a λS=>
bB m d.len
(aI .i64 (add S (toNat m*1)) h λT=>
f_qbh e g i j T (λh=>
∃ A,A<q/\w (wrap .i64 (m+1)) A h) h))
(Q z h))
(aN h (.cells #[(.int .i64 R)] 3) λU h=>
dM 1 8 #[(.int .i64 0)] 3 d (Sl.mk (some (mk U 0 none)) 1 1) h λV h=>
∃ B,B<p/\u V (wrap .i64 (v+1)) B h)) h)
(∃ x:Sl->Int->Nat->AP,(∃ r,x l 0 r h)/\∀ b n r h,x b n r h->
bsel (decide (n<(Int.ofNat d.len)))
(aF d.a λW=>
bB n d.len
(aI .i64 (add W (toNat n*1)) h λC=>
aF b.a λX=>
bB (wrap .i64 ((Int.ofNat b.len)-1)) b.len
(aI .i64 (add X (toNat (wrap .i64 ((Int.ofNat b.len)-1))*1)) h λY=>
bB (wrap .i64 ((Int.ofNat b.len)-1)) 4
(aI .i64 (add (mk c 0 none) (toNat (wrap .i64 ((Int.ofNat b.len)-1))*1)) h λZ=>
f_qbp e g i j Y Z true true true false false false false false C (λh=>
aN h (.cells #[(.int .i64 C)] 3) λaa h=>
dM 1 8 #[(.int .i64 0)] 3 b (Sl.mk (some (mk aa 0 none)) 1 1) h λab h=>
∃ D,D<r/\x ab (wrap .i64 (n+1)) D h) h))))
(aF b.a λE=>
bB 3 b.len
(aI .i64 (add E 3) h λF=>
aI .i64 (add (mk c 0 none) 3) h λG=>
f_qeu s I J L (λac ad ae af ag ah ai aj ak h=>
(aI .i64 (add (mk c 0 none) 3) h λal=>
((.int .i64 al):Value)=(.int .i64 G))/\
((aI .i64 (add E 3) h λam=>
((.int .i64 am):Value)=(.int .i64 F))/\
(f_qbp e g i j F G ac ad ae af ag ah ai aj ak (λh=>
Q 0 h) h))) h))))/\
(bsel ((Int.ofNat l.len)==4)
(aF l.a λan=>
bB 3 l.len
(aI .i64 (add an 3) h λao=>
aI .i64 (add (mk c 0 none) 3) h λap=>
f_qdt e g i j ao ap (λaq _ _ _ _ _ _ _ _ h=>
bsel aq
(Q 6 h)
(t h)) h))
(t h))) h) h)/\
(bsel (decide (o<0))
(Q 1 h)
(bsel (decide (o>=34359738368))
(Q 1 h)
(bsel (decide (s<0))
(Q 1 h)
(bsel (decide (s>=1048576))
(Q 1 h)
(y h))))))
def qey_A:qey_T:=qey_G qbf_A qbh_A qbp_A qdt_A qed_A qee_A qeu_A
def qey_W (f:qey_T):aX [.agg [.p,.p,.p,(.i .i64)],.c (.i .i64),.c (.i .i64),.c (.i .i64),.agg [.b,.b,.b]] EnR:=λb c d e g i j l m n K _Kp=>f b c d e g i j l m n (λo=>K (.int .i64 o))
abbrev qez_T:=Option Addr->Int->Int->Bool->Bool->Bool->(Int->Int->Int->AP)->AP
variable (f_qez:qez_T)
def qez_G:qez_T:=λt G n u v w Q h=>
(aF t λH=>
aM (add H 6) h λI=>
lG h I .i64 G λJ=>
∃ c:Option Addr,((J.getD (.pointer none)):Value)=(.pointer c)/\
(bsel c.isNone
(Q 0 0 5 h)
(aN h (.cells #[(.bool u),(.bool v)] 4) λL h=>
∃ o:Int->Int->Nat->AP,(∃ e,o 0 0 e h)/\∀ d b e h,o d b e h->
bsel (decide (b<2))
(∃ p:Int->AP,(∀ x h,p x h->
∃ y,y<e/\o x (wrap .i64 (b+1)) y h)/\
(bB b 2
(aB (add (mk L 0 none) (toNat b*1)) h λM=>
bsel M
(bsel (decide (b<0)) False
(p (bits .or .i64 d (wrap .i64 (2*2 ^ (min (toNat b) 64)))) h))
(p d h))))
(∃ q:Int->AP,(∀ g h,q g h->
aF c λN=>
aS (add N 2) h λO=>
f_qeb O n (λ_ _ z A B _ P h=>
bsel (!P)
(Q 0 g 9 h)
(aF c λR=>
aI .i64 R h λS=>
f_qat t S (λi j l m h=>
aF c λT=>
aI .i64 (add T 1) h λU=>
f_qef i j l m U n (λV _ _ _ C h=>
f_qex z A B u v w (λW h=>
bsel (!W)
(∃ r:Int->AP,(∀ D h,r D h->
Q 0 D 9 h)/\
(bsel C
(r (bits .or .i64 g 1) h)
(r g h)))
(bsel C
(Q V 0 0 h)
(f_qbf i j l m (λs E h=>
bsel (E != 0)
(Q 0 0 E h)
(aF c λX=>
aI .i64 (add X 1) h λY=>
f_qey i j l m Y n s z A B (λF h=>
bsel (F != 0)
(f_qbh i j l m s (λh=>
Q 0 0 F h) h)
(Q s 0 0 h)) h)) h))) h) h) h)) h)/\
(bsel w
(q (bits .or .i64 d 16) h)
(q d h))))))
def qez_A:qez_T:=qez_G qat_A qbf_A qbh_A qeb_A qef_A qex_A qey_A
def qez_W (f:qez_T):aX [.c .p,.c (.i .i64),.c (.i .i64),.agg [.b,.b,.b]] EnR:=λb c d e g i K _Kp=>f b c d e g i (λj l m=>K (.tuple #[(.int .i64 j),(.int .i64 l),(.int .i64 m)]))
abbrev qfa_T:=Bool->Bool->Bool->(Int->AP)->AP
variable (f_qfa:qfa_T)
def qfa_A:qfa_T:=λj l m Q h=>
(∃ b:Int->AP,(∀ c h,b c h->
∃ d:Int->AP,(∀ e h,d e h->
∃ g:Int->AP,(∀ i h,g i h->
Q i h)/\
(bsel m
(g (wrap .i64 (e+16)) h)
(g e h)))/\
(bsel l
(d (wrap .i64 (c+4)) h)
(d c h)))/\
(bsel j
(b 2 h)
(b 0 h)))
def qfa_W (f:qfa_T):aX [.agg [.b,.b,.b]] EnR:=λb c d K _Kp=>f b c d (λe=>K (.int .i64 e))
abbrev qfb_T:=Int->Int->Sl->Sl->Int->(Int->Int->Int->Bool->AP)->AP
variable (f_qfb:qfb_T)
def qfb_A:qfb_T:=λ_p0 _p1 _p2 d o Q h=>
(∃ e:Int->Int->Int->Int->Nat->AP,(∃ c,e 0 0 0 0 c h)/\∀ b i j l c h,e b i j l c h->
bsel (decide (b<(Int.ofNat d.len)))
(aF d.a λg=>
bB b d.len
(aI .i64 (add g (toNat b*3)) h λm=>
aI .i64 (add (add g (toNat b*3)) 1) h λp=>
aI .i64 (add (add g (toNat b*3)) 2) h λq=>
bsel (m==o)
(Q m p q true h)
(∃ n,n<c/\e (wrap .i64 (b+1)) i j l n h)))
(Q 0 0 0 false h))
def qfb_W (f:qfb_T):aX [.agg [(.i .i64),(.i .i64),.s,.s],.c (.i .i64)] EnR:=λb c d e g K _Kp=>f b c d e g (λi j l m=>K (.tuple #[(.agg #[(.int .i64 i),(.int .i64 j),(.int .i64 l)]),(.bool m)]))
abbrev qfc_T:=Bool->Bool->Bool->Bool->Bool->Bool->(Bool->AP)->AP
variable (f_qfc:qfc_T)
def qfc_A:qfc_T:=λg d b i e c Q h=>
(bsel i
(bsel (!g)
(Q false h)
(bsel e
(bsel (!d)
(Q false h)
(bsel (!c)
(Q true h)
(Q b h)))
(bsel (!c)
(Q true h)
(Q b h))))
(bsel e
(bsel (!d)
(Q false h)
(bsel (!c)
(Q true h)
(Q b h)))
(bsel (!c)
(Q true h)
(Q b h))))
def qfc_W (f:qfc_T):aX [.c .b,.c .b,.c .b,.agg [.b,.b,.b]] EnR:=λb c d e g i K _Kp=>f b c d e g i (λj=>K (.bool j))
abbrev qfd_T:=Int->Int->Sl->Sl->Int->Int->Int->(Int->Int->Sl->Sl->AP)->AP
variable (f_qfd:qfd_T)
def qfd_A:qfd_T:=λy z A j e s t Q h=>
(aN h (.cells #[] 161) λB h=>
∃ l:Sl->Bool->Int->Nat->AP,(∃ g,l (Sl.mk (some (mk B 0 none)) 0 0) false 0 g h)/\∀ c d b g h,l c d b g h->
bsel (decide (b<(Int.ofNat j.len)))
(∃ m:Sl->Bool->AP,(∀ u v h,m u v h->
∃ w,w<g/\l u v (wrap .i64 (b+1)) w h)/\
(aF j.a λn=>
bB b j.len
(aI .i64 (add n (toNat b*3)) h λo=>
aI .i64 (add (add n (toNat b*3)) 1) h λC=>
aI .i64 (add (add n (toNat b*3)) 2) h λD=>
∃ i:Sl->Bool->AP,(∀ p q h,i p q h->
bsel (o != e)
(aN h (.cells #[(.int .i64 o),(.int .i64 C),(.int .i64 D)] 161) λE h=>
dM 3 24 #[(.int .i64 0),(.int .i64 0),(.int .i64 0)] 161 p (Sl.mk (some (mk E 0 none)) 1 1) h λF h=>
m F q h)
(m p q h))/\
(bsel (!d)
(bsel (decide (o>=e))
(aN h (.cells #[(.int .i64 e),(.int .i64 s),(.int .i64 t)] 161) λG h=>
dM 3 24 #[(.int .i64 0),(.int .i64 0),(.int .i64 0)] 161 c (Sl.mk (some (mk G 0 none)) 1 1) h λH h=>
i H true h)
(i c d h))
(i c d h)))))
(∃ r:Sl->AP,(∀ x h,r x h->
Q y z A x h)/\
(bsel (!d)
(aN h (.cells #[(.int .i64 e),(.int .i64 s),(.int .i64 t)] 161) λI h=>
dM 3 24 #[(.int .i64 0),(.int .i64 0),(.int .i64 0)] 161 c (Sl.mk (some (mk I 0 none)) 1 1) h λJ h=>
r J h)
(r c h))))
def qfd_W (f:qfd_T):aX [.agg [(.i .i64),(.i .i64),.s,.s],.agg [(.i .i64),(.i .i64),(.i .i64)]] EnR:=λd e g i j l m K _Kp=>f d e g i j l m (λn o b c=>K (.agg #[(.int .i64 n),(.int .i64 o),(.slice b.a b.len b.cap),(.slice c.a c.len c.cap)]))
abbrev qfe_T:=Sl->Sl->Int->Int->Int->Bool->Bool->Bool->(Sl->Sl->Int->Int->Int->Int->AP)->AP
variable (f_qfe:qfe_T)
def qfe_G:qfe_T:=λd e b x m i j l Q h=>
(f_qca d e b x (λq r n s y h=>
bsel (!y)
(Q d e b 0 0 5 h)
(f_qcd n m (λ_ _ z A B _ C h=>
bsel (!C)
(f_qfa i j l (λD h=>
Q d e b 0 D 9 h) h)
(f_qfb q r n s m (λE F G t h=>
aN h (.cells #[(.int .i64 0),(.int .i64 0),(.int .i64 0)] 161) λg h=>
aC (mk g 0 none) (.int .i64 E) h λh=>
aC (add (mk g 0 none) 1) (.int .i64 F) h λh=>
aC (add (mk g 0 none) 2) (.int .i64 G) h λh=>
f_qfc z A B i j l (λH h=>
bsel (!H)
(bsel t
(f_qfa i j l (λI h=>
Q d e b 0 (wrap .i64 (I+1)) 9 h) h)
(f_qfa i j l (λJ h=>
Q d e b 0 J 9 h) h))
(bsel t
(aI .i64 (add (mk g 0 none) 1) h λu=>
(aI .i64 (add (mk g 0 none) 1) h λL=>
((.int .i64 L):Value)=(.int .i64 u))/\
(Q d e b u 0 0 h))
(f_qfd q r n s m (wrap .i64 (b+1)) 0 (λM N O P h=>
f_qck d e b M N O P (λo p R v h=>
aN h (.cells #[(.slice none 0 0),(.slice none 0 0),(.int .i64 0)] 29) λc h=>
aC (mk c 0 none) (.slice o.a o.len o.cap) h λh=>
aC (add (mk c 0 none) 1) (.slice p.a p.len p.cap) h λh=>
aC (add (mk c 0 none) 2) (.int .i64 R) h λh=>
bsel (v != 0)
(Q d e b 0 0 v h)
(aC (add (mk c 0 none) 2) (.int .i64 (wrap .i64 (b+1))) h λh=>
aS (mk c 0 none) h λS=>
aS (add (mk c 0 none) 1) h λT=>
aI .i64 (add (mk c 0 none) 2) h λU=>
aI .i64 (add (mk c 0 none) 2) h λw=>
(aI .i64 (add (mk c 0 none) 2) h λV=>
((.int .i64 V):Value)=(.int .i64 w))/\
(Q S T U w 0 0 h))) h) h))) h) h)) h)) h)
def qfe_A:qfe_T:=qfe_G qca_A qcd_A qck_A qfa_A qfb_A qfc_A qfd_A
def qfe_W (f:qfe_T):aX [.agg [.s,.s,(.i .i64)],.c (.i .i64),.c (.i .i64),.agg [.b,.b,.b]] EnR:=λd e g i j l m n K _Kp=>f d e g i j l m n (λb c o p q r=>K (.tuple #[(.agg #[(.slice b.a b.len b.cap),(.slice c.a c.len c.cap),(.int .i64 o)]),(.int .i64 p),(.int .i64 q),(.int .i64 r)]))
abbrev qff_T:=Option Addr->Int->Int->Bool->(Int->AP)->AP
variable (f_qff:qff_T)
def qff_G:qff_T:=λc i d j Q h=>
(aF c λl=>
aM (add l 6) h λm=>
lG h m .i64 i λn=>
∃ b:Option Addr,((n.getD (.pointer none)):Value)=(.pointer b)/\
(bsel b.isNone
(Q 5 h)
(aF b λo=>
aS (add o 2) h λp=>
f_qeb p d (λ_ _ q _ _ r s h=>
aF b λt=>
aF b λe=>
aI .i64 t h λu=>
aI .i64 (add e 1) h λg=>
f_qat c u (λv w x y h=>
(aI .i64 (add e 1) h λz=>
((.int .i64 z):Value)=(.int .i64 g))/\
(f_qef v w x y g d (λ_ _ _ _ A h=>
bsel (!s)
(Q 5 h)
(bsel (r != 0)
(Q 5 h)
(bsel (!A)
(Q 5 h)
(bsel j
(bsel (!q)
(Q 10 h)
(Q 0 h))
(Q 0 h))))) h)) h) h)))
def qff_A:qff_T:=qff_G qat_A qeb_A qef_A
def qff_W (f:qff_T):aX [.c .p,.c (.i .i64),.c (.i .i64),.c .b] EnR:=λb c d e K _Kp=>f b c d e (λg=>K (.int .i64 g))
abbrev qfg_T:=Sl->Sl->Int->Int->Int->Bool->(Int->AP)->AP
variable (f_qfg:qfg_T)
def qfg_G:qfg_T:=λd e g i b j Q h=>
(f_qca d e g i (λl m c n _ h=>
f_qcd c b (λ_ _ o _ _ p _ h=>
f_qfb l m c n b (λ_ _ _ q h=>
bsel (!q)
(Q 5 h)
(bsel (p != 0)
(Q 5 h)
(bsel j
(bsel (!o)
(Q 10 h)
(Q 0 h))
(Q 0 h)))) h) h) h)
def qfg_A:qfg_T:=qfg_G qca_A qcd_A qfb_A
def qfg_W (f:qfg_T):aX [.agg [.s,.s,(.i .i64)],.c (.i .i64),.c (.i .i64),.c .b] EnR:=λb c d e g i K _Kp=>f b c d e g i (λj=>K (.int .i64 j))
abbrev qfh_T:=Option Addr->Int->Int->Int->Int->Bool->Bool->Bool->(Int->AP)->AP
variable (f_qfh:qfh_T)
def qfh_G:qfh_T:=λe z g A j l n i Q h=>
(aF e λB=>
aM (add B 6) h λC=>
lG h C .i64 z λD=>
∃ b:Option Addr,((D.getD (.pointer none)):Value)=(.pointer b)/\
(aF e λE=>
aM (add E 6) h λF=>
lG h F .i64 A λG=>
∃ c:Option Addr,((G.getD (.pointer none)):Value)=(.pointer c)/\
(∃ o:AH->Prop,(∀ h,o h->
aF b λH=>
aS (add H 2) h λI=>
f_qeb I g (λ_ _ J _ p L M h=>
aF b λN=>
aF b λq=>
aI .i64 N h λO=>
aI .i64 (add q 1) h λr=>
f_qat e O (λP R S T h=>
(aI .i64 (add q 1) h λU=>
((.int .i64 U):Value)=(.int .i64 r))/\
(f_qef P R S T r g (λV _ _ _ W h=>
∃ s:AH->Prop,(∀ h,s h->
∃ d:AH->Prop,(∀ h,d h->
aF c λX=>
aS (add X 2) h λY=>
f_qcx Y j (wrap .i64 (j+1)) l n i 1 (λm t h=>
bsel (t != 0)
(Q t h)
(aF c λZ=>
aF c λu=>
aI .i64 Z h λaa=>
aI .i64 (add u 1) h λv=>
f_qat e aa (λab ac ad ae h=>
(aI .i64 (add u 1) h λaf=>
((.int .i64 af):Value)=(.int .i64 v))/\
(f_qey ab ac ad ae v j V l n i (λw h=>
bsel (w != 0)
(Q w h)
(aF c λag=>
aC (add ag 2) (.slice m.a m.len m.cap) h λh=>
aF b λah=>
aM (add ah 3) h λx=>
lG h x .i64 g λai=>
∃ y:Int,((ai.getD (.int .i64 0)):Value)=(.int .i64 y)/\
(mK h x .i64 g (.int .i64 (wrap .i64 (y+1))) λh=>
Q 0 h))) h)) h)) h)/\
(bsel l
(bsel (!J)
(Q 10 h)
(bsel i
(bsel (!p)
(Q 10 h)
(d h))
(d h)))
(bsel i
(bsel (!p)
(Q 10 h)
(d h))
(d h))))/\
(bsel (!M)
(Q 5 h)
(bsel (L != 0)
(Q 5 h)
(bsel (!W)
(Q 5 h)
(s h))))) h)) h) h)/\
(bsel b.isNone
(Q 5 h)
(bsel c.isNone
(Q 5 h)
(o h))))))
def qfh_A:qfh_T:=qfh_G qat_A qcx_A qeb_A qef_A qey_A
def qfh_W (f:qfh_T):aX [.c .p,.c (.i .i64),.c (.i .i64),.c (.i .i64),.c (.i .i64),.agg [.b,.b,.b]] EnR:=λb c d e g i j l K _Kp=>f b c d e g i j l (λm=>K (.int .i64 m))
abbrev qfi_T:=Sl->Sl->Int->Int->Int->Int->Int->Bool->Bool->Bool->(Sl->Sl->Int->Int->AP)->AP
variable (f_qfi:qfi_T)
def qfi_G:qfi_T:=λb c d o p F e n q m Q h=>
(f_qca b c d o (λG H r I J h=>
f_qca b c d F (λL M s N O h=>
f_qcd r p (λ_ _ P _ t R _ h=>
f_qfb G H r I p (λS u T U h=>
∃ v:Sl->Sl->Int->AP,(∀ g i j h,v g i j h->
∃ l:Sl->Sl->Int->AP,(∀ w x y h,l w x y h->
∃ z:Sl->Sl->Int->AP,(∀ V W X h,z V W X h->
f_qde s e (wrap .i64 (e+1)) 1 e (wrap .i64 (e+1)) n q m 1 (λA h=>
bsel (A != 0)
(Q b c d A h)
(f_qdd s e (wrap .i64 (e+1)) 1 e (wrap .i64 (e+1)) n q m 1 (λY h=>
f_qfd L M Y N e u 0 (λZ aa ab ac h=>
f_qck b c d Z aa ab ac (λB C D E h=>
bsel (E != 0)
(Q b c d E h)
(f_qca B C D o (λad ae af ag _ h=>
f_qfd ad ae af ag S u (wrap .i64 (T+1)) (λah ai aj ak h=>
f_qci B C D ah ai aj ak (λal am an h=>
Q al am an 0 h) h) h) h)) h) h) h)) h)/\
(bsel (decide (e<0))
(Q b c d 1 h)
(bsel (decide (e>=34359738368))
(Q b c d 1 h)
(z w x y h))))/\
(bsel n
(bsel (!P)
(Q b c d 10 h)
(bsel m
(bsel (!t)
(Q b c d 10 h)
(l g i j h))
(l g i j h)))
(bsel m
(bsel (!t)
(Q b c d 10 h)
(l g i j h))
(l g i j h))))/\
(bsel (!J)
(Q b c d 5 h)
(bsel (!O)
(Q b c d 5 h)
(bsel (!U)
(Q b c d 5 h)
(bsel (R != 0)
(Q b c d 5 h)
(v Sl.nil Sl.nil 0 h)))))) h) h) h) h)
def qfi_A:qfi_T:=qfi_G qca_A qcd_A qci_A qck_A qdd_A qde_A qfb_A qfd_A
def qfi_W (f:qfi_T):aX [.agg [.s,.s,(.i .i64)],.c (.i .i64),.c (.i .i64),.c (.i .i64),.c (.i .i64),.agg [.b,.b,.b]] EnR:=λd e g i j l m n o p K _Kp=>f d e g i j l m n o p (λb c q r=>K (.tuple #[(.agg #[(.slice b.a b.len b.cap),(.slice c.a c.len c.cap),(.int .i64 q)]),(.int .i64 r)]))
abbrev qfj_T:=Option Addr->Int->Int->Int->Int->(Int->AP)->AP
variable (f_qfj:qfj_T)
def qfj_G:qfj_T:=λe w d l g Q h=>
(aF e λx=>
aM (add x 6) h λy=>
lG h y .i64 w λz=>
∃ b:Option Addr,((z.getD (.pointer none)):Value)=(.pointer b)/\
(aF e λA=>
aM (add A 6) h λB=>
lG h B .i64 l λC=>
∃ c:Option Addr,((C.getD (.pointer none)):Value)=(.pointer c)/\
(∃ m:AH->Prop,(∀ h,m h->
aF b λD=>
aF b λn=>
aI .i64 D h λE=>
aI .i64 (add n 1) h λo=>
f_qat e E (λF G H I h=>
(aI .i64 (add n 1) h λJ=>
((.int .i64 J):Value)=(.int .i64 o))/\
(f_qef F G H I o d (λL _ _ _ M h=>
aF c λN=>
aF c λp=>
aI .i64 N h λO=>
aI .i64 (add p 1) h λq=>
f_qat e O (λP R S T h=>
(aI .i64 (add p 1) h λU=>
((.int .i64 U):Value)=(.int .i64 q))/\
(f_qef P R S T q g (λV _ _ _ W h=>
∃ r:AH->Prop,(∀ h,r h->
f_qeo e l c g (λh=>
aF c λX=>
aS (add X 2) h λY=>
f_qdm Y g (wrap .i64 (g+1)) (λi _ h=>
aF c λZ=>
aC (add Z 2) (.slice i.a i.len i.cap) h λh=>
∃ j:AH->Prop,(∀ h,j h->
Q 0 h)/\
(aF b λaa=>
aM (add aa 3) h λs=>
lG h s .i64 d λab=>
∃ t:Int,((ab.getD (.int .i64 0)):Value)=(.int .i64 t)/\
(mK h s .i64 d (.int .i64 (wrap .i64 (t-1))) λh=>
aF b λac=>
aM (add ac 3) h λad=>
lG h ad .i64 d λae=>
∃ u:Int,((ae.getD (.int .i64 0)):Value)=(.int .i64 u)/\
(bsel (u==0)
(aF b λaf=>
aM (add af 3) h λag=>
qW h ag .i64 d λh=>
j h)
(j h))))) h) h)/\
(aF c λah=>
aS (add ah 2) h λai=>
f_qeb ai g (λ_ _ _ _ _ aj ak h=>
bsel (!ak)
(Q 5 h)
(bsel (aj != 1)
(Q 5 h)
(bsel (!M)
(Q 5 h)
(bsel (!W)
(Q 5 h)
(bsel (L != V)
(Q 5 h)
(r h)))))) h)) h)) h) h)) h)/\
(bsel b.isNone
(Q 5 h)
(bsel c.isNone
(Q 5 h)
(aF b λal=>
aM (add al 3) h λam=>
lG h am .i64 d λan=>
∃ v:Int,((an.getD (.int .i64 0)):Value)=(.int .i64 v)/\
(bsel (v==0)
(Q 5 h)
(m h))))))))
def qfj_A:qfj_T:=qfj_G qat_A qdm_A qeb_A qef_A qeo_A
def qfj_W (f:qfj_T):aX [.c .p,.c (.i .i64),.c (.i .i64),.c (.i .i64),.c (.i .i64)] EnR:=λb c d e g K _Kp=>f b c d e g (λi=>K (.int .i64 i))
abbrev qfk_T:=Sl->Sl->Int->Int->Int->Int->Int->(Sl->Sl->Int->Int->AP)->AP
variable (f_qfk:qfk_T)
def qfk_G:qfk_T:=λb c d m t u e Q h=>
(f_qca b c d m (λv w x y _ h=>
f_qca b c d u (λi j g l _ h=>
f_qfb v w x y t (λz n o A h=>
f_qfb i j g l e (λ_ B _ C h=>
f_qcd g e (λ_ _ _ _ _ D _ h=>
∃ p:Sl->Sl->Int->AP,(∀ E F G h,p E F G h->
f_qdg i j g l e (wrap .i64 (e+1)) (λH I _ J h=>
f_qdd g e (wrap .i64 (e+1)) 2 0 0 false false false 0 (λL h=>
f_qdh b c d i j g l H I L J (λq r s _ h=>
f_qca q r s m (λM N O P _ h=>
f_qfd M N O P z n (wrap .i64 (o-1)) (λR S T U h=>
f_qci q r s R S T U (λV W X h=>
Q V W X 0 h) h) h) h) h) h) h)/\
(bsel (!A)
(Q b c d 5 h)
(bsel (!C)
(Q b c d 5 h)
(bsel (o==0)
(Q b c d 5 h)
(bsel (D != 1)
(Q b c d 5 h)
(bsel (n != B)
(Q b c d 5 h)
(p Sl.nil Sl.nil 0 h))))))) h) h) h) h) h)
def qfk_A:qfk_T:=qfk_G qca_A qcd_A qci_A qdd_A qdg_A qdh_A qfb_A qfd_A
def qfk_W (f:qfk_T):aX [.agg [.s,.s,(.i .i64)],.c (.i .i64),.c (.i .i64),.c (.i .i64),.c (.i .i64)] EnR:=λd e g i j l m K _Kp=>f d e g i j l m (λb c n o=>K (.tuple #[(.agg #[(.slice b.a b.len b.cap),(.slice c.a c.len c.cap),(.int .i64 n)]),(.int .i64 o)]))
abbrev qfl_T:=Bool->Int->Int->Int->Bool->Bool->Bool->Bool->Bool->Option Addr->(Bool->AP)->AP
variable (f_qfl:qfl_T)
def qfl_A:qfl_T:=λ_p0 b _p2 _p3 _p4 _p5 _p6 c _p8 d Q h=>
(aF d λe=>
aI .i64 e h λg=>
bsel (b==g)
(Q (!c) h)
(Q false h))
def qfl_W (f:qfl_T):aX [.agg [.b,(.i .i64),(.i .i64),(.i .i64),.b,.b,.b,.b,.b],.c .p] EnR:=λb c d e g i j l m n K _Kp=>f b c d e g i j l m n (λo=>K (.bool o))
abbrev qfm_T:=Option Addr->Option Addr->(AH->Prop)->AP
variable (f_qfm:qfm_T)
def qfm_G:qfm_T:=λn q Q h=>
(∃ j:Int->Nat->AP,(∃ g,j 0 g h)/\∀ b g h,j b g h->
bsel (decide (b<8))
(∃ l:Int->Nat->AP,(∃ i,l 0 i h)/\∀ c i h,l c i h->
bsel (decide (c<2))
(∃ m:AH->Prop,(∀ h,m h->
∃ o,o<i/\l (wrap .i64 (c+1)) o h)/\
(aF n λd=>
bB b 8
(bB c 2
(aB (add (add d (toNat b*18)) (toNat c*9)) h λr=>
aI .i64 (add (add (add d (toNat b*18)) (toNat c*9)) 1) h λs=>
aI .i64 (add (add (add d (toNat b*18)) (toNat c*9)) 2) h λt=>
aI .i64 (add (add (add d (toNat b*18)) (toNat c*9)) 3) h λu=>
aB (add (add (add d (toNat b*18)) (toNat c*9)) 4) h λv=>
aB (add (add (add d (toNat b*18)) (toNat c*9)) 5) h λw=>
aB (add (add (add d (toNat b*18)) (toNat c*9)) 6) h λx=>
aB (add (add (add d (toNat b*18)) (toNat c*9)) 7) h λy=>
aB (add (add (add d (toNat b*18)) (toNat c*9)) 8) h λz=>
f_qfl r s t u v w x y z q (λA h=>
bsel A
(aF n λe=>
bB b 8
(bB c 2
(aC (add (add e (toNat b*18)) (toNat c*9)) (.bool false) h λh=>
aC (add (add (add e (toNat b*18)) (toNat c*9)) 1) (.int .i64 0) h λh=>
aC (add (add (add e (toNat b*18)) (toNat c*9)) 2) (.int .i64 0) h λh=>
aC (add (add (add e (toNat b*18)) (toNat c*9)) 3) (.int .i64 0) h λh=>
aC (add (add (add e (toNat b*18)) (toNat c*9)) 4) (.bool false) h λh=>
aC (add (add (add e (toNat b*18)) (toNat c*9)) 5) (.bool false) h λh=>
aC (add (add (add e (toNat b*18)) (toNat c*9)) 6) (.bool false) h λh=>
aC (add (add (add e (toNat b*18)) (toNat c*9)) 7) (.bool false) h λh=>
aC (add (add (add e (toNat b*18)) (toNat c*9)) 8) (.bool false) h λh=>
m h)))
(m h)) h))))
(∃ p,p<g/\j (wrap .i64 (b+1)) p h))
(Q h))
def qfm_A:qfm_T:=qfm_G qfl_A
def qfm_W (f:qfm_T):aX [.c .p,.fn 155 [] [.p]] EnR:=λb c K _Kp=>f b c (K (.tuple #[]))
abbrev qfn_T:=Option Addr->Int->(AH->Prop)->AP
variable (f_qfn:qfn_T)
def qfn_G:qfn_T:=λb c Q h=>
(aN h (.cells #[(.int .i64 c)] 3) λd h=>
f_qfm b (some (mk d 0 none)) (λh=>
Q h) h)
def qfn_A:qfn_T:=qfn_G qfm_A
def qfn_W (f:qfn_T):aX [.c .p,.c (.i .i64)] EnR:=λb c K _Kp=>f b c (K (.tuple #[]))
abbrev qfo_T:=Option Addr->Int->(AH->Prop)->AP
variable (f_qfo:qfo_T)
def qfo_A:qfo_T:=λb c Q h=>
(aF b λg=>
aM (add g 4) h λi=>
lG h i .i64 c λd=>
∃ e:Int,((d.getD (.int .i64 0)):Value)=(.int .i64 e)/\
(bsel d.isSome
(aF b λj=>
aM (add j 3) h λl=>
qW h l .i64 e λh=>
aF b λm=>
aM (add m 4) h λn=>
qW h n .i64 c λh=>
Q h)
(Q h)))
def qfo_W (f:qfo_T):aX [.c .p,.c (.i .i64)] EnR:=λb c K _Kp=>f b c (K (.tuple #[]))
abbrev qfp_T:=Option Addr->Option Addr->Option Addr->Int->Int->(Int->AP)->AP
variable (f_qfp:qfp_T)
def qfp_G:qfp_T:=λb c d e g Q h=>
(f_qdw b c d e g (λi h=>
bsel (decide ((Int.ofNat i.len) > 0))
(Q 11 h)
(f_qbh b c d e g (λh=>
Q 0 h) h)) h)
def qfp_A:qfp_T:=qfp_G qbh_A qdw_A
def qfp_W (f:qfp_T):aX [.agg [.p,.p,.p,(.i .i64)],.c (.i .i64)] EnR:=λb c d e g K _Kp=>f b c d e g (λi=>K (.int .i64 i))
abbrev qfq_T:=Option Addr->Int->(Int->AP)->AP
variable (f_qfq:qfq_T)
def qfq_G:qfq_T:=λb d Q h=>
(aF b λr=>
aM (add r 6) h λs=>
lG h s .i64 d λt=>
∃ c:Option Addr,((t.getD (.pointer none)):Value)=(.pointer c)/\
(bsel c.isNone
(Q 5 h)
(f_qdq c 0 34359738368 (λu h=>
bsel u
(Q 11 h)
(aF c λv=>
aI .i64 v h λw=>
f_qat b w (λm n o p h=>
aF c λx=>
aI .i64 (add x 1) h λy=>
f_qdw m n o p y (λi h=>
∃ j:Int->Nat->AP,(∃ g,j 0 g h)/\∀ e g h,j e g h->
bsel (decide (e<(Int.ofNat i.len)))
(aF i.a λz=>
bB e i.len
(aI .i64 (add z (toNat e*1)) h λA=>
f_qeo b d c A (λh=>
∃ q,q<g/\j (wrap .i64 (e+1)) q h) h))
(∃ l:AH->Prop,(∀ h,l h->
aF b λB=>
aP (add B 4) h λC=>
f_qfo C d (λh=>
aF c λD=>
aI .i64 (add D 1) h λE=>
f_qfp m n o p E (λ_ h=>
aF b λF=>
aM (add F 6) h λG=>
qW h G .i64 d λh=>
Q 0 h) h) h)/\
(aF b λH=>
aP (add H 4) h λI=>
f_qei I d (λJ L h=>
bsel L
(aF b λM=>
aP (add M 3) h λN=>
f_qfn N J (λh=>
l h) h)
(l h)) h))) h) h)) h)))
def qfq_A:qfq_T:=qfq_G qat_A qdq_A qdw_A qei_A qeo_A qfn_A qfo_A qfp_A
def qfq_W (f:qfq_T):aX [.c .p,.c (.i .i64)] EnR:=λb c K _Kp=>f b c (λd=>K (.int .i64 d))
abbrev qfr_T:=Sl->Sl->Int->Int->(Sl->Sl->Int->Int->AP)->AP
variable (f_qfr:qfr_T)
def qfr_G:qfr_T:=λc d e q Q h=>
(f_qca c d e q (λr l s t x h=>
bsel (!x)
(Q c d e 5 h)
(f_qdf r l s t 0 34359738368 (λy h=>
bsel y
(Q c d e 11 h)
(aN h (.cells #[] 73) λz h=>
∃ m:Int->Sl->Nat->AP,(∃ g,m 0 (Sl.mk (some (mk z 0 none)) 0 0) g h)/\∀ b i g h,m b i g h->
bsel (decide (b<(Int.ofNat c.len)))
(∃ n:Sl->AP,(∀ u h,n u h->
∃ v,v<g/\m (wrap .i64 (b+1)) u v h)/\
(aF c.a λj=>
bB b c.len
(aI .i64 (add j (toNat b*4)) h λw=>
aI .i64 (add (add j (toNat b*4)) 1) h λA=>
aS (add (add j (toNat b*4)) 2) h λo=>
aS (add (add j (toNat b*4)) 3) h λp=>
bsel (w != q)
(aN h (.cells #[(.int .i64 w),(.int .i64 A),(.slice o.a o.len o.cap),(.slice p.a p.len p.cap)] 73) λB h=>
dM 4 64 #[(.int .i64 0),(.int .i64 0),(.slice none 0 0),(.slice none 0 0)] 73 i (Sl.mk (some (mk B 0 none)) 1 1) h λC h=>
n C h)
(n i h))))
(f_qce r l s t (λD h=>
f_qcj d l (wrap .i64 (0-D)) (λE h=>
Q i E e 0 h) h) h))) h)) h)
def qfr_A:qfr_T:=qfr_G qca_A qce_A qcj_A qdf_A
def qfr_W (f:qfr_T):aX [.agg [.s,.s,(.i .i64)],.c (.i .i64)] EnR:=λd e g i K _Kp=>f d e g i (λb c j l=>K (.tuple #[(.agg #[(.slice b.a b.len b.cap),(.slice c.a c.len c.cap),(.int .i64 j)]),(.int .i64 l)]))
abbrev qfs_T:=Int->Int->Int->Int->Bool->(Bool->AP)->AP
variable (f_qfs:qfs_T)
def qfs_A:qfs_T:=λ_p0 _p1 _p2 _p3 b Q h=>
(Q (!b) h)
def qfs_W (f:qfs_T):aX [.agg [(.i .i64),(.i .i64),(.i .i64),(.i .i64),.b]] EnR:=λb c d e g K _Kp=>f b c d e g (λi=>K (.bool i))
abbrev qft_T:=Sl->(Int->AP)->AP
variable (f_qft:qft_T)
def qft_G:qft_T:=λe Q h=>
(∃ g:Int->Nat->AP,(∃ d,g 0 d h)/\∀ b d h,g b d h->
bsel (decide (b<(Int.ofNat e.len)))
(aF e.a λc=>
bB b e.len
(aI .i64 (add c (toNat b*5)) h λj=>
aI .i64 (add (add c (toNat b*5)) 1) h λl=>
aI .i64 (add (add c (toNat b*5)) 2) h λm=>
aI .i64 (add (add c (toNat b*5)) 3) h λn=>
aB (add (add c (toNat b*5)) 4) h λo=>
f_qfs j l m n o (λp h=>
bsel p
(Q b h)
(∃ i,i<d/\g (wrap .i64 (b+1)) i h)) h))
(Q (-1) h))
def qft_A:qft_T:=qft_G qfs_A
def qft_W (f:qft_T):aX [.c .s,.fn 99 [] []] EnR:=λb K _Kp=>f b (λc=>K (.int .i64 c))
abbrev qfu_T:=Sl->(Sl->AP)->AP
variable (f_qfu:qfu_T)
def qfu_A:qfu_T:=λb Q h=>
(bsel (Option.isNone b.a)
(Q Sl.nil h)
(aN h (.cells #[] 219) λc h=>
dM 5 40 #[(.int .i64 0),(.int .i64 0),(.int .i64 0),(.int .i64 0),(.bool false)] 219 (Sl.mk (some (mk c 0 none)) 0 0) b h λd h=>
Q d h))
def qfu_W (f:qfu_T):aX [.c .s] EnR:=λc K _Kp=>f c (λb=>K (.slice b.a b.len b.cap))
abbrev qfv_T:=Option Addr->Int->Int->(Int->Int->AP)->AP
variable (f_qfv:qfv_T)
def qfv_G:qfv_T:=λb e d Q h=>
(f_qau b e (λo r h=>
bsel (!r)
(Q 0 5 h)
(bsel (decide (d<0))
(Q 0 1 h)
(f_qav b e (λs h=>
bsel (decide (d > s))
(Q 0 8 h)
(aF b λt=>
aS t h λu=>
f_qft u (λc h=>
∃ j:AH->Prop,(∀ h,j h->
aF o λv=>
aI .i64 (add v 3) h λw=>
aF o λx=>
aC (add x 3) (.int .i64 (wrap .i64 (w+d))) h λh=>
bsel (decide (c<0))
(aF b λp=>
aS p h λg=>
(f_qfu g (λy h=>
aN h (.cells #[(.int .i64 e),(.int .i64 d),(.int .i64 0),(.int .i64 0),(.bool (true:Bool))] 219) λz h=>
dM 5 40 #[(.int .i64 0),(.int .i64 0),(.int .i64 0),(.int .i64 0),(.bool false)] 219 y (Sl.mk (some (mk z 0 none)) 1 1) h λl h=>
aF b λA=>
aC A (.slice l.a l.len l.cap) h λh=>
aF b λB=>
aS B h λC=>
Q (wrap .i64 ((Int.ofNat C.len)-1)) 0 h) h)/\
(aN h (.cells #[(.int .i64 e),(.int .i64 d),(.int .i64 0),(.int .i64 0),(.bool (true:Bool))] 219) λD h=>
(aS p h λm=>
((.slice m.a m.len m.cap):Value)=(.slice g.a g.len g.cap))/\
(f_qfu g (λE h=>
dM 5 40 #[(.int .i64 0),(.int .i64 0),(.int .i64 0),(.int .i64 0),(.bool false)] 219 E (Sl.mk (some (mk D 0 none)) 1 1) h λn h=>
aF b λF=>
aC F (.slice n.a n.len n.cap) h λh=>
aF b λG=>
aS G h λH=>
Q (wrap .i64 ((Int.ofNat H.len)-1)) 0 h) h)))
(aF b λI=>
aS I h λq=>
aF q.a λi=>
bB c q.len
(aC (add i (toNat c*5)) (.int .i64 e) h λh=>
aC (add (add i (toNat c*5)) 1) (.int .i64 d) h λh=>
aC (add (add i (toNat c*5)) 2) (.int .i64 0) h λh=>
aC (add (add i (toNat c*5)) 3) (.int .i64 0) h λh=>
aC (add (add i (toNat c*5)) 4) (.bool (true:Bool)) h λh=>
Q c 0 h)))/\
(bsel (decide (c<0))
(aF b λJ=>
aS J h λL=>
bsel (decide ((Int.ofNat L.len)>=64))
(Q 0 4 h)
(j h))
(j h))) h)) h))) h)
def qfv_A:qfv_T:=qfv_G qau_A qav_A qft_A qfu_A
def qfv_W (f:qfv_T):aX [.c .p,.c (.i .i64),.c (.i .i64)] EnR:=λb c d K _Kp=>f b c d (λe g=>K (.tuple #[(.int .i64 e),(.int .i64 g)]))
abbrev qfw_T:=Sl->Int->Int->(Sl->Int->Int->AP)->AP
variable (f_qfw:qfw_T)
def qfw_G:qfw_T:=λb p q Q h=>
(f_qcf b p (λ_ _ _ _ G h=>
bsel (!G)
(Q b 0 5 h)
(bsel (decide (q<0))
(Q b 0 1 h)
(f_qch b p (λH h=>
bsel (decide (q > H))
(Q b 0 8 h)
(bsel (decide ((Int.ofNat b.len) > 63))
(Q b 0 4 h)
(∃ r:Int->Int->Nat->AP,(∃ g,r 0 0 g h)/\∀ c s g h,r c s g h->
bsel (decide (s<=(Int.ofNat b.len)))
(∃ t:Int->AP,(∀ y h,t y h->
∃ z,z<g/\r y (wrap .i64 (s+1)) z h)/\
(f_qcf b c (λ_ _ _ _ I h=>
bsel I
(t (wrap .i64 (c+1)) h)
(t c h)) h))
(aN h (.cells #[] 90) λJ h=>
∃ u:Sl->Int->Nat->AP,(∃ i,u (Sl.mk (some (mk J 0 none)) 0 0) 0 i h)/\∀ j d i h,u j d i h->
bsel (decide (d<(Int.ofNat b.len)))
(∃ v:Sl->AP,(∀ A h,v A h->
∃ B,B<i/\u A (wrap .i64 (d+1)) B h)/\
(aF b.a λl=>
bB d b.len
(aI .i64 (add l (toNat d*4)) h λC=>
aI .i64 (add (add l (toNat d*4)) 1) h λL=>
aI .i64 (add (add l (toNat d*4)) 2) h λM=>
aI .i64 (add (add l (toNat d*4)) 3) h λN=>
bsel (decide (C<c))
(aN h (.cells #[(.int .i64 C),(.int .i64 L),(.int .i64 M),(.int .i64 N)] 90) λO h=>
dM 4 32 #[(.int .i64 0),(.int .i64 0),(.int .i64 0),(.int .i64 0)] 90 j (Sl.mk (some (mk O 0 none)) 1 1) h λP h=>
v P h)
(v j h))))
(aN h (.cells #[(.int .i64 c),(.int .i64 p),(.int .i64 q),(.int .i64 0)] 90) λR h=>
dM 4 32 #[(.int .i64 0),(.int .i64 0),(.int .i64 0),(.int .i64 0)] 90 j (Sl.mk (some (mk R 0 none)) 1 1) h λS h=>
∃ w:Sl->Int->Nat->AP,(∃ m,w S 0 m h)/\∀ n e m h,w n e m h->
bsel (decide (e<(Int.ofNat b.len)))
(∃ x:Sl->AP,(∀ D h,x D h->
∃ E,E<m/\w D (wrap .i64 (e+1)) E h)/\
(aF b.a λo=>
bB e b.len
(aI .i64 (add o (toNat e*4)) h λF=>
aI .i64 (add (add o (toNat e*4)) 1) h λT=>
aI .i64 (add (add o (toNat e*4)) 2) h λU=>
aI .i64 (add (add o (toNat e*4)) 3) h λV=>
bsel (decide (F > c))
(aN h (.cells #[(.int .i64 F),(.int .i64 T),(.int .i64 U),(.int .i64 V)] 90) λW h=>
dM 4 32 #[(.int .i64 0),(.int .i64 0),(.int .i64 0),(.int .i64 0)] 90 n (Sl.mk (some (mk W 0 none)) 1 1) h λX h=>
x X h)
(x n h))))
(Q n c 0 h)))))) h))) h)
def qfw_A:qfw_T:=qfw_G qcf_A qch_A
def qfw_W (f:qfw_T):aX [.c .s,.c (.i .i64),.c (.i .i64)] EnR:=λc d e K _Kp=>f c d e (λb g i=>K (.tuple #[(.slice b.a b.len b.cap),(.int .i64 g),(.int .i64 i)]))
abbrev qfx_T:=Option Addr->Sl->Sl->Int->Option Nat->Int->Int->Int->Int->Int->Bool->Bool->Bool->Bool->Bool->Bool->(Option Addr->Sl->Sl->Int->Option Nat->Bool->AP)->AP
variable (f_qfx:qfx_T)
def qfx_G:qfx_T:=λd e g b j n c p i m o q r A B C Q h=>
(∃ l:Int->Int->Sl->Sl->Int->Option Addr->Sl->Sl->Int->Option Nat->AP,(∀ D E F G H Y Z aa ab ac h,l D E F G H Y Z aa ab ac h->
Q d F G H j (D==E) h)/\
(bsel (n==1)
(f_qbz d c p (λad h=>
f_qcl e g b c p (λae af ag ah h=>
l ad ah ae af ag none Sl.nil Sl.nil 0 none h) h) h)
(bsel (n==2)
(f_qcy d c i m o q r (λai h=>
f_qdi e g b c i m 1 o q r (λaj ak al am h=>
l ai am aj ak al none Sl.nil Sl.nil 0 none h) h) h)
(bsel (n==3)
(f_qep d c i m (λan h=>
f_qdi e g b c i m 2 o q r (λao ap aq ar h=>
l an ar ao ap aq none Sl.nil Sl.nil 0 none h) h) h)
(bsel (n==4)
(f_qew d c i m o q r (λau h=>
f_qdi e g b c i m 3 o q r (λav aw ax ay h=>
l au ay av aw ax none Sl.nil Sl.nil 0 none h) h) h)
(bsel (n==5)
(f_qez d c i A B C (λs az aA h=>
f_qfe e g b c i A B C (λI J t u aD v h=>
bsel (aA != v)
(Q d e g b j false h)
(bsel (az != aD)
(Q d e g b j false h)
(bsel (v != 0)
(bsel (s != 0)
(Q d e g b j false h)
(∃ w:Option Addr->Sl->Sl->Int->Option Nat->AP,(∀ L M N O P h,w L M N O P h->
l 0 0 I J t L M N O P h)/\
(bsel (v==0)
(∃ x:AH->Prop,(∀ h,x h->
lG h j .i64 u λaE=>
∃ R:Int,((aE.getD (.int .i64 0)):Value)=(.int .i64 R)/\
(bsel (R != s)
(Q d e g b j false h)
(w none Sl.nil Sl.nil 0 none h)))/\
(bsel (decide (t > b))
(mK h j .i64 u (.int .i64 s) λh=>
x h)
(x h)))
(w none Sl.nil Sl.nil 0 none h))))
(∃ y:Option Addr->Sl->Sl->Int->Option Nat->AP,(∀ S T U V W h,y S T U V W h->
l 0 0 I J t S T U V W h)/\
(bsel (v==0)
(∃ z:AH->Prop,(∀ h,z h->
lG h j .i64 u λaG=>
∃ X:Int,((aG.getD (.int .i64 0)):Value)=(.int .i64 X)/\
(bsel (X != s)
(Q d e g b j false h)
(y none Sl.nil Sl.nil 0 none h)))/\
(bsel (decide (t > b))
(mK h j .i64 u (.int .i64 s) λh=>
z h)
(z h)))
(y none Sl.nil Sl.nil 0 none h)))))) h) h)
(bsel (n==6)
(f_qff d c i o (λaH h=>
f_qfg e g b c i o (λaJ h=>
bsel (aH != aJ)
(Q d e g b j false h)
(f_qfh d c i p m o q r (λaK h=>
f_qfi e g b c i p m o q r (λaL aO aQ aR h=>
l aK aR aL aO aQ none Sl.nil Sl.nil 0 none h) h) h)) h) h)
(bsel (n==7)
(f_qfj d c i p m (λaT h=>
f_qfk e g b c i p m (λaU aV aW aY h=>
l aT aY aU aV aW none Sl.nil Sl.nil 0 none h) h) h)
(bsel (n==8)
(f_qfq d c (λaZ h=>
f_qfr e g b c (λa0 a1 a2 a3 h=>
l aZ a3 a0 a1 a2 none Sl.nil Sl.nil 0 none h) h) h)
(bsel (n==9)
(aF d λa4=>
aP (add a4 2) h λa5=>
f_qfv a5 c p (λa6 a7 h=>
f_qfw g c p (λa8 a9 ba h=>
bsel (a6 != a9)
(Q d e g b j false h)
(bsel (a7 != ba)
(Q d e g b j false h)
(l 0 0 e a8 b none Sl.nil Sl.nil 0 none h))) h) h)
(l 0 0 e g b none Sl.nil Sl.nil 0 none h)))))))))))
def qfx_A:qfx_T:=qfx_G qbz_A qcl_A qcy_A qdi_A qep_A qew_A qez_A qfe_A qff_A qfg_A qfh_A qfi_A qfj_A qfk_A qfq_A qfr_A qfv_A qfw_A
def qfx_W (f:qfx_T):aX [.agg [.p,.s,.s,(.i .i64),.m],.agg [(.i .i64),(.i .i64),(.i .i64),(.i .i64),(.i .i64),.b,.b,.b,.b,.b,.b]] EnR:=λd e g i j l m n o p q r s t u v K _Kp=>f d e g i j l m n o p q r s t u v (λw b c x y z=>K (.tuple #[(.agg #[(.pointer w),(.slice b.a b.len b.cap),(.slice c.a c.len c.cap),(.int .i64 x),(.map y)]),(.bool z)]))
abbrev qfy_T:=(Bool->AP)->AP
variable (f_qfy:qfy_T)
def qfy_G:qfy_T:=λQ h=>
(f_qbs 20 5 (λb _ _ _ d h=>
∃ c:AH->Prop,(∀ h,c h->
f_qez b 1 2 true true false (λ_ _ e h=>
f_qez b 1 9 true true false (λ_ g i h=>
bsel (e==0)
(bsel (i==9)
(bsel (g==6)
(aF b λj=>
aP (add j 2) h λl=>
f_qav l 0 (λm h=>
Q (m==12) h) h)
(Q false h))
(Q false h))
(Q false h)) h) h)/\
(bsel (!d)
(Q false h)
(f_qbz b 1 0 (λn h=>
bsel (n != 0)
(Q false h)
(f_qcy b 1 0 4 true true false (λo h=>
bsel (o != 0)
(Q false h)
(c h)) h)) h))) h)
def qfy_A:qfy_T:=qfy_G qav_A qbs_A qbz_A qcy_A qez_A
def qfy_W (f:qfy_T):aX [] EnR:=fun  K _Kp=>f  (λb=>K (.bool b))
abbrev qfz_T:=Int->Int->Sl->Sl->Int->(Int->AP)->AP
variable (f_qfz:qfz_T)
def qfz_G:qfz_T:=λb c d e g Q h=>
(f_qfb b c d e g (λ_ i _ _ h=>
Q i h) h)
def qfz_A:qfz_T:=qfz_G qfb_A
def qfz_W (f:qfz_T):aX [.agg [(.i .i64),(.i .i64),.s,.s],.c (.i .i64)] EnR:=λb c d e g K _Kp=>f b c d e g (λi=>K (.int .i64 i))
abbrev qga_T:=Option Addr->Int->(Sl->AP)->AP
variable (f_qga:qga_T)
def qga_G:qga_T:=λc d Q h=>
(aF c λe=>
aM (add e 6) h λg=>
lG h g .i64 d λi=>
∃ b:Option Addr,((i.getD (.pointer none)):Value)=(.pointer b)/\
(bsel (!b.isNone)
(aF b λj=>
aS (add j 2) h λl=>
f_qcp l (λm h=>
Q m h) h)
(Q Sl.nil h)))
def qga_A:qga_T:=qga_G qcp_A
def qga_W (f:qga_T):aX [.c .p,.c (.i .i64)] EnR:=λc d K _Kp=>f c d (λb=>K (.slice b.a b.len b.cap))
abbrev qgb_T:=Option Addr->Int->(Sl->AP)->AP
variable (f_qgb:qgb_T)
def qgb_G:qgb_T:=λc g Q h=>
(aF c λi=>
aM (add i 6) h λj=>
lG h j .i64 g λl=>
∃ b:Option Addr,((l.getD (.pointer none)):Value)=(.pointer b)/\
(bsel (!b.isNone)
(aF b λm=>
aF b λd=>
aI .i64 m h λn=>
aI .i64 (add d 1) h λe=>
f_qat c n (λo p q r h=>
(aI .i64 (add d 1) h λs=>
((.int .i64 s):Value)=(.int .i64 e))/\
(f_qdw o p q r e (λt h=>
Q t h) h)) h)
(Q Sl.nil h)))
def qgb_A:qgb_T:=qgb_G qat_A qdw_A
def qgb_W (f:qgb_T):aX [.c .p,.c (.i .i64)] EnR:=λc d K _Kp=>f c d (λb=>K (.slice b.a b.len b.cap))
abbrev qgc_T:=Sl->Sl->(Bool->AP)->AP
variable (f_qgc:qgc_T)
def qgc_A:qgc_T:=λc e Q h=>
(bsel ((Int.ofNat c.len) != (Int.ofNat e.len))
(Q false h)
(∃ g:Int->Nat->AP,(∃ d,g 0 d h)/\∀ b d h,g b d h->
bsel (decide (b<(Int.ofNat c.len)))
(aF c.a λj=>
bB b c.len
(aI .i64 (add j (toNat b*1)) h λl=>
aF e.a λm=>
bB b e.len
(aI .i64 (add m (toNat b*1)) h λn=>
bsel (l != n)
(Q false h)
(∃ i,i<d/\g (wrap .i64 (b+1)) i h))))
(Q true h)))
def qgc_W (f:qgc_T):aX [.c .s,.c .s] EnR:=λb c K _Kp=>f b c (λd=>K (.bool d))
abbrev qgd_T:=Option Addr->Int->(Int->Int->Int->Int->Bool->Bool->AP)->AP
variable (f_qgd:qgd_T)
def qgd_G:qgd_T:=λc d Q h=>
(f_qau c d (λe g h=>
bsel g
(aF e λb=>
aI .i64 b h λi=>
aI .i64 (add b 1) h λj=>
aI .i64 (add b 2) h λl=>
aI .i64 (add b 3) h λm=>
aB (add b 4) h λn=>
Q i j l m n true h)
(Q 0 0 0 0 (false:Bool) false h)) h)
def qgd_A:qgd_T:=qgd_G qau_A
def qgd_W (f:qgd_T):aX [.c .p,.c (.i .i64)] EnR:=λb c K _Kp=>f b c (λd e g i j l=>K (.tuple #[(.agg #[(.int .i64 d),(.int .i64 e),(.int .i64 g),(.int .i64 i),(.bool j)]),(.bool l)]))
abbrev qge_T:=Option Addr->(Sl->AP)->AP
variable (f_qge:qge_T)
def qge_A:qge_T:=λL Q h=>
(aF L λM=>
aJP 144 M h λc=>
∃ C:Sl->Int->Nat->AP,(∃ z,C Sl.nil 0 z h)/\∀ D b z h,C D b z h->
bsel (decide (b<8))
(bB b 8
(tN c.toList ((toNat b*18)+0) λe=>
geI .i64 c.toList ((toNat b*18)+1) λg=>
geI .i64 c.toList ((toNat b*18)+2) λi=>
geI .i64 c.toList ((toNat b*18)+3) λj=>
tN c.toList ((toNat b*18)+4) λl=>
tN c.toList ((toNat b*18)+5) λm=>
tN c.toList ((toNat b*18)+6) λn=>
tN c.toList ((toNat b*18)+7) λo=>
tN c.toList ((toNat b*18)+8) λp=>
tN c.toList ((toNat b*18)+9) λq=>
geI .i64 c.toList ((toNat b*18)+10) λr=>
geI .i64 c.toList ((toNat b*18)+11) λs=>
geI .i64 c.toList ((toNat b*18)+12) λt=>
tN c.toList ((toNat b*18)+13) λu=>
tN c.toList ((toNat b*18)+14) λv=>
tN c.toList ((toNat b*18)+15) λw=>
tN c.toList ((toNat b*18)+16) λx=>
tN c.toList ((toNat b*18)+17) λy=>
∃ E:Sl->Int->Nat->AP,(∃ A,E D 0 A h)/\∀ B d A h,E B d A h->
bsel (decide (d<2))
(∃ F:Sl->AP,(∀ G h,F G h->
∃ H,H<A/\E G (wrap .i64 (d+1)) H h)/\
(bB d 2
(tN [(.bool e),(.int .i64 g),(.int .i64 i),(.int .i64 j),(.bool l),(.bool m),(.bool n),(.bool o),(.bool p),(.bool q),(.int .i64 r),(.int .i64 s),(.int .i64 t),(.bool u),(.bool v),(.bool w),(.bool x),(.bool y)] ((toNat d*9)+0) λI=>
geI .i64 [(.bool e),(.int .i64 g),(.int .i64 i),(.int .i64 j),(.bool l),(.bool m),(.bool n),(.bool o),(.bool p),(.bool q),(.int .i64 r),(.int .i64 s),(.int .i64 t),(.bool u),(.bool v),(.bool w),(.bool x),(.bool y)] ((toNat d*9)+1) λN=>
geI .i64 [(.bool e),(.int .i64 g),(.int .i64 i),(.int .i64 j),(.bool l),(.bool m),(.bool n),(.bool o),(.bool p),(.bool q),(.int .i64 r),(.int .i64 s),(.int .i64 t),(.bool u),(.bool v),(.bool w),(.bool x),(.bool y)] ((toNat d*9)+2) λO=>
geI .i64 [(.bool e),(.int .i64 g),(.int .i64 i),(.int .i64 j),(.bool l),(.bool m),(.bool n),(.bool o),(.bool p),(.bool q),(.int .i64 r),(.int .i64 s),(.int .i64 t),(.bool u),(.bool v),(.bool w),(.bool x),(.bool y)] ((toNat d*9)+3) λP=>
tN [(.bool e),(.int .i64 g),(.int .i64 i),(.int .i64 j),(.bool l),(.bool m),(.bool n),(.bool o),(.bool p),(.bool q),(.int .i64 r),(.int .i64 s),(.int .i64 t),(.bool u),(.bool v),(.bool w),(.bool x),(.bool y)] ((toNat d*9)+4) λR=>
tN [(.bool e),(.int .i64 g),(.int .i64 i),(.int .i64 j),(.bool l),(.bool m),(.bool n),(.bool o),(.bool p),(.bool q),(.int .i64 r),(.int .i64 s),(.int .i64 t),(.bool u),(.bool v),(.bool w),(.bool x),(.bool y)] ((toNat d*9)+5) λS=>
tN [(.bool e),(.int .i64 g),(.int .i64 i),(.int .i64 j),(.bool l),(.bool m),(.bool n),(.bool o),(.bool p),(.bool q),(.int .i64 r),(.int .i64 s),(.int .i64 t),(.bool u),(.bool v),(.bool w),(.bool x),(.bool y)] ((toNat d*9)+6) λT=>
tN [(.bool e),(.int .i64 g),(.int .i64 i),(.int .i64 j),(.bool l),(.bool m),(.bool n),(.bool o),(.bool p),(.bool q),(.int .i64 r),(.int .i64 s),(.int .i64 t),(.bool u),(.bool v),(.bool w),(.bool x),(.bool y)] ((toNat d*9)+7) λU=>
tN [(.bool e),(.int .i64 g),(.int .i64 i),(.int .i64 j),(.bool l),(.bool m),(.bool n),(.bool o),(.bool p),(.bool q),(.int .i64 r),(.int .i64 s),(.int .i64 t),(.bool u),(.bool v),(.bool w),(.bool x),(.bool y)] ((toNat d*9)+8) λV=>
bsel I
(aN h (.cells #[(.bool I),(.int .i64 N),(.int .i64 O),(.int .i64 P),(.bool R),(.bool S),(.bool T),(.bool U),(.bool V)] 178) λW h=>
dM 9 40 #[(.bool false),(.int .i64 0),(.int .i64 0),(.int .i64 0),(.bool false),(.bool false),(.bool false),(.bool false),(.bool false)] 178 B (Sl.mk (some (mk W 0 none)) 1 1) h λX h=>
F X h)
(F B h))))
(∃ J,J<z/\C B (wrap .i64 (b+1)) J h)))
(Q D h))
def qge_W (f:qge_T):aX [.c .p] EnR:=λc K _Kp=>f c (λb=>K (.slice b.a b.len b.cap))
abbrev qgf_T:=Option Addr->Int->(Int->Bool->AP)->AP
variable (f_qgf:qgf_T)
def qgf_A:qgf_T:=λd e Q h=>
(aF d λg=>
aM (add g 3) h λi=>
lG h i .i64 e λb=>
∃ c:Int,((b.getD (.int .i64 0)):Value)=(.int .i64 c)/\
(Q c b.isSome h))
def qgf_W (f:qgf_T):aX [.c .p,.c (.i .i64)] EnR:=λb c K _Kp=>f b c (λd e=>K (.tuple #[(.int .i64 d),(.bool e)]))
abbrev qgg_T:=Bool->Int->Int->Int->Bool->Bool->Bool->Bool->Bool->Option Addr->(Bool->AP)->AP
variable (f_qgg:qgg_T)
def qgg_G:qgg_T:=λ_p0 i j l m n o p _p8 c Q h=>
(aF c λq=>
aP q h λr=>
aF r λs=>
aP (add s 4) h λt=>
f_qgf t i (λu v h=>
aF c λw=>
aP w h λx=>
aF x λy=>
aM (add y 6) h λz=>
lG h z .i64 u λA=>
∃ b:Option Addr,((A.getD (.pointer none)):Value)=(.pointer b)/\
(∃ d:AH->Prop,(∀ h,d h->
aF b λB=>
aF b λe=>
aF c λC=>
aP C h λD=>
aI .i64 B h λE=>
aI .i64 (add e 1) h λg=>
f_qat D E (λF G H I h=>
(aI .i64 (add e 1) h λJ=>
((.int .i64 J):Value)=(.int .i64 g))/\
(f_qef F G H I g j (λL M N O P h=>
bsel P
(bsel (L==l)
(Q ((M==m)&&((N==n)&&((O==o)&&true))) h)
(Q false h))
(Q false h)) h)) h)/\
(bsel (!v)
(Q false h)
(bsel b.isNone
(Q false h)
(bsel p
(Q false h)
(d h)))))) h)
def qgg_A:qgg_T:=qgg_G qat_A qef_A qgf_A
def qgg_W (f:qgg_T):aX [.agg [.b,(.i .i64),(.i .i64),(.i .i64),.b,.b,.b,.b,.b],.c .p] EnR:=λb c d e g i j l m n K _Kp=>f b c d e g i j l m n (λo=>K (.bool o))
abbrev qgh_T:=Sl->Option Addr->(Int->AP)->AP
variable (f_qgh:qgh_T)
def qgh_G:qgh_T:=λe j Q h=>
(∃ g:Int->Nat->AP,(∃ d,g 0 d h)/\∀ b d h,g b d h->
bsel (decide (b<(Int.ofNat e.len)))
(aF e.a λc=>
bB b e.len
(aB (add c (toNat b*9)) h λl=>
aI .i64 (add (add c (toNat b*9)) 1) h λm=>
aI .i64 (add (add c (toNat b*9)) 2) h λn=>
aI .i64 (add (add c (toNat b*9)) 3) h λo=>
aB (add (add c (toNat b*9)) 4) h λp=>
aB (add (add c (toNat b*9)) 5) h λq=>
aB (add (add c (toNat b*9)) 6) h λr=>
aB (add (add c (toNat b*9)) 7) h λs=>
aB (add (add c (toNat b*9)) 8) h λt=>
f_qgg l m n o p q r s t j (λu h=>
bsel u
(Q b h)
(∃ i,i<d/\g (wrap .i64 (b+1)) i h)) h))
(Q (-1) h))
def qgh_A:qgh_T:=qgh_G qgg_A
def qgh_W (f:qgh_T):aX [.c .s,.fn 164 [] [.p]] EnR:=λb c K _Kp=>f b c (λd=>K (.int .i64 d))
abbrev qgi_T:=Sl->Option Addr->(Sl->AP)->AP
variable (f_qgi:qgi_T)
def qgi_G:qgi_T:=λc o Q h=>
(f_qgh c o (λj h=>
bsel (j==(-1))
(Q c h)
(∃ l:Int->Int->Nat->AP,(∃ i,l j (wrap .i64 (j+1)) i h)/\∀ b d i h,l b d i h->
bsel (decide (d<(Int.ofNat c.len)))
(∃ m:Int->AP,(∀ p h,m p h->
∃ q,q<i/\l p (wrap .i64 (d+1)) q h)/\
(aF c.a λe=>
bB d c.len
(aB (add e (toNat d*9)) h λr=>
aI .i64 (add (add e (toNat d*9)) 1) h λs=>
aI .i64 (add (add e (toNat d*9)) 2) h λt=>
aI .i64 (add (add e (toNat d*9)) 3) h λu=>
aB (add (add e (toNat d*9)) 4) h λv=>
aB (add (add e (toNat d*9)) 5) h λw=>
aB (add (add e (toNat d*9)) 6) h λx=>
aB (add (add e (toNat d*9)) 7) h λy=>
aB (add (add e (toNat d*9)) 8) h λz=>
f_qgg r s t u v w x y z o (λA h=>
bsel (!A)
(aF c.a λg=>
bB b c.len
(aC (add g (toNat b*9)) (.bool r) h λh=>
aC (add (add g (toNat b*9)) 1) (.int .i64 s) h λh=>
aC (add (add g (toNat b*9)) 2) (.int .i64 t) h λh=>
aC (add (add g (toNat b*9)) 3) (.int .i64 u) h λh=>
aC (add (add g (toNat b*9)) 4) (.bool v) h λh=>
aC (add (add g (toNat b*9)) 5) (.bool w) h λh=>
aC (add (add g (toNat b*9)) 6) (.bool x) h λh=>
aC (add (add g (toNat b*9)) 7) (.bool y) h λh=>
aC (add (add g (toNat b*9)) 8) (.bool z) h λh=>
m (wrap .i64 (b+1)) h))
(m b h)) h)))
(bB b (c.len+1)
(aG0 #[(.bool false),(.int .i64 0),(.int .i64 0),(.int .i64 0),(.bool false),(.bool false),(.bool false),(.bool false),(.bool false)] (Sl.mk (if c.cap=(toNat b) then c.a else Option.map (λn=>add n ((toNat b)*9)) c.a) (c.len-(toNat b)) (c.cap-(toNat b))) h λh=>
bB b (c.cap+1)
(Q (Sl.mk (if c.cap=0 then c.a else Option.map (λn=>add n (0*9)) c.a) (toNat b) c.cap) h))))) h)
def qgi_A:qgi_T:=qgi_G qgg_A qgh_A
def qgi_W (f:qgi_T):aX [.c .s,.fn 164 [] [.p]] EnR:=λc d K _Kp=>f c d (λb=>K (.slice b.a b.len b.cap))
abbrev qgj_T:=Option Addr->(Sl->AP)->AP
variable (f_qgj:qgj_T)
def qgj_G:qgj_T:=λc Q h=>
(aN h (.cells #[(.pointer c)] 25) λb h=>
aP (mk b 0 none) h λd=>
aF d λe=>
aP (add e 3) h λg=>
f_qge g (λi h=>
f_qgi i (some (mk b 0 none)) (λj h=>
Q j h) h) h)
def qgj_A:qgj_T:=qgj_G qge_A qgi_A
def qgj_W (f:qgj_T):aX [.c .p] EnR:=λc K _Kp=>f c (λb=>K (.slice b.a b.len b.cap))
abbrev qgk_T:=Option Addr->Sl->Sl->Int->Option Nat->(Bool->AP)->AP
variable (f_qgk:qgk_T)
def qgk_G:qgk_T:=λe t j _p3 _p4 Q h=>
(aN h (.cells #[] 3) λG h=>
∃ u:Sl->Int->Nat->AP,(∃ l,u (Sl.mk (some (mk G 0 none)) 0 0) 0 l h)/\∀ v c l h,u v c l h->
bsel (decide (c<(Int.ofNat t.len)))
(aF t.a λm=>
bB c t.len
(aI .i64 (add m (toNat c*4)) h λn=>
aI .i64 (add (add m (toNat c*4)) 1) h λH=>
aS (add (add m (toNat c*4)) 2) h λo=>
aS (add (add m (toNat c*4)) 3) h λI=>
aN h (.cells #[(.int .i64 n)] 3) λJ h=>
dM 1 8 #[(.int .i64 0)] 3 v (Sl.mk (some (mk J 0 none)) 1 1) h λL h=>
f_qga e n (λp h=>
∃ z:AH->Prop,(∀ h,z h->
∃ w:Int->Nat->AP,(∃ q,w 0 q h)/\∀ b q h,w b q h->
bsel (decide (b<(Int.ofNat p.len)))
(aF p.a λg=>
bB b p.len
(aI .i64 (add g (toNat b*6)) h λM=>
aI .i64 (add (add g (toNat b*6)) 1) h λN=>
aB (add (add g (toNat b*6)) 2) h λO=>
aB (add (add g (toNat b*6)) 3) h λP=>
aB (add (add g (toNat b*6)) 4) h λR=>
aI .i64 (add (add g (toNat b*6)) 5) h λS=>
aF o.a λi=>
bB b o.len
(aI .i64 (add i (toNat b*6)) h λT=>
aI .i64 (add (add i (toNat b*6)) 1) h λU=>
aB (add (add i (toNat b*6)) 2) h λV=>
aB (add (add i (toNat b*6)) 3) h λW=>
aB (add (add i (toNat b*6)) 4) h λX=>
aI .i64 (add (add i (toNat b*6)) 5) h λY=>
bsel (!((M==T)&&((N==U)&&(((O==V)&&((P==W)&&((R==X)&&true)))&&((S==Y)&&true)))))
(Q false h)
(∃ A,A<q/\w (wrap .i64 (b+1)) A h))))
(∃ B,B<l/\u L (wrap .i64 (c+1)) B h))/\
(bsel ((Int.ofNat p.len) != (Int.ofNat o.len))
(Q false h)
(f_qgb e n (λZ h=>
f_qcb n H o I (λaa h=>
f_qgc Z aa (λab h=>
bsel (!ab)
(Q false h)
(z h)) h) h) h))) h))
(∃ x:Int->Int->Nat->AP,(∃ r,x 0 0 r h)/\∀ y d r h,x y d r h->
bsel (decide (d<(Int.ofNat j.len)))
(aF j.a λs=>
bB d j.len
(aI .i64 (add s (toNat d*4)) h λac=>
aI .i64 (add (add s (toNat d*4)) 1) h λ_=>
aI .i64 (add (add s (toNat d*4)) 2) h λad=>
aI .i64 (add (add s (toNat d*4)) 3) h λC=>
aF e λae=>
aP (add ae 2) h λaf=>
f_qgd af ac (λ_ ag ah _ _ ai h=>
bsel (!ai)
(Q false h)
(bsel (ah != C)
(Q false h)
(bsel (ag != ad)
(Q false h)
(∃ D,D<r/\x (wrap .i64 (y+C)) (wrap .i64 (d+1)) D h)))) h))
(f_qbx e (λaj h=>
f_qgc aj v (λak h=>
bsel ak
(aF e λal=>
aP (add al 1) h λam=>
aF j.a λE=>
bB 0 j.len
(aI .i64 (add E 2) h λF=>
f_qar am (λan h=>
(aI .i64 (add E 2) h λao=>
((.int .i64 ao):Value)=(.int .i64 F))/\
(bsel (an==(wrap .i64 (F-y)))
(f_qgj e (λap h=>
Q ((Int.ofNat ap.len)==0) h) h)
(Q false h))) h))
(Q false h)) h) h)))
def qgk_A:qgk_T:=qgk_G qar_A qbx_A qcb_A qga_A qgb_A qgc_A qgd_A qgj_A
def qgk_W (f:qgk_T):aX [.agg [.p,.s,.s,(.i .i64),.m]] EnR:=λb c d e g K _Kp=>f b c d e g (λi=>K (.bool i))
abbrev qgl_T:=Option Addr->Sl->Sl->Int->Option Nat->(Int->AP)->AP
variable (f_qgl:qgl_T)
def qgl_G:qgl_T:=λb c d e g Q h=>
(f_qgk b c d e g (λi h=>
bsel i
(Q 0 h)
(Q (-1) h)) h)
def qgl_A:qgl_T:=qgl_G qgk_A
def qgl_W (f:qgl_T):aX [.agg [.p,.s,.s,(.i .i64),.m]] EnR:=λb c d e g K _Kp=>f b c d e g (λi=>K (.int .i64 i))
abbrev qgm_T:=Int->Sl->Int->Int->Int->(Bool->AP)->AP
def qgm_G:qgm_T:=λo c v w x Q h=>
(∃ y:AH->Prop,(∀ h,y h->
f_qbs o 3 (λe R S T U h=>
bsel (!U)
(Q false h)
(aN h (.map #[] 0) λV h=>
∃ p:Option Addr->Sl->Sl->Int->Option Nat->AP,(∀ z q r s A h,p z q r s A h->
aF e λW=>
aP (add W 1) h λX=>
f_qar X (λB h=>
f_qca q r s v (λY Z aa ab _ h=>
f_qfz Y Z aa ab w (λac h=>
f_qez e v w false false false (λC _ ad h=>
bsel (ad != 0)
(f_qfy (λae h=>
bsel ae
(aF e λaf=>
aP (add af 1) h λag=>
f_qar ag (λah h=>
bsel (ah==B)
(f_qgl z q r s A (λai h=>
Q (ai==0) h) h)
(Q false h)) h)
(Q false h)) h)
(f_qfy (λaj h=>
bsel aj
(aF e λak=>
aP ak h λal=>
f_qbb al C (λam h=>
bsel am
(bsel (ac != 0)
(Q true h)
(aF e λan=>
aP an h λao=>
f_qeg ao C (λap h=>
bsel ap
(aF e λaq=>
aP (add aq 1) h λar=>
f_qar ar (λau h=>
Q (decide (au<B)) h) h)
(Q false h)) h))
(Q false h)) h)
(Q false h)) h)) h) h) h) h)/\
(∃ t:Int->Option Addr->Sl->Sl->Int->Option Nat->Nat->AP,(∃ g,t 0 e R S T (some V) g h)/\∀ b i j l m n g h,t b i j l m n g h->
∃ D:AH->Prop,(∀ h,D h->
∃ u:Option Addr->Sl->Sl->Int->Option Nat->AP,(∀ E F G H I h,u E F G H I h->
∃ J,J<g/\t (wrap .i64 (b+1)) E F G H I J h)/\
(aF c.a λd=>
bB b c.len
(aI .i64 (add d (toNat b*11)) h λav=>
aI .i64 (add (add d (toNat b*11)) 1) h λaw=>
aI .i64 (add (add d (toNat b*11)) 2) h λax=>
aI .i64 (add (add d (toNat b*11)) 3) h λay=>
aI .i64 (add (add d (toNat b*11)) 4) h λaz=>
aB (add (add d (toNat b*11)) 5) h λaA=>
aB (add (add d (toNat b*11)) 6) h λaD=>
aB (add (add d (toNat b*11)) 7) h λaE=>
aB (add (add d (toNat b*11)) 8) h λaG=>
aB (add (add d (toNat b*11)) 9) h λaH=>
aB (add (add d (toNat b*11)) 10) h λaJ=>
f_qfx i j l m n av aw ax ay az aA aD aE aG aH aJ (λL M N O P _ h=>
aF c.a λaK=>
bB b c.len
(aF c.a λaL=>
bB b c.len
(aI .i64 (add (add aK (toNat b*11)) 1) h λaO=>
aI .i64 (add (add aL (toNat b*11)) 3) h λaQ=>
f_qez e aO aQ false false false (λaR _ aT h=>
bsel (aT==0)
(aF e λaU=>
aP aU h λaV=>
f_qbo aV (wrap .u64 ((wrap .u64 ((wrap .u64 aR)*4096))+(Int.tmod x 4089))) 8 x (λ_ h=>
aF c.a λaW=>
bB b c.len
(aF c.a λaY=>
bB b c.len
(aI .i64 (add (add aW (toNat b*11)) 1) h λaZ=>
aI .i64 (add (add aY (toNat b*11)) 3) h λa0=>
f_qfe M N O aZ a0 false false false (λa1 a2 a3 _ _ _ h=>
u L a1 a2 a3 P h) h))) h)
(u L M N O P h)) h))) h)))/\
(bsel (decide (b<(Int.ofNat c.len)))
(bsel (decide (b<30))
(D h)
(p i j l m n h))
(p i j l m n h))))) h)/\
(bsel (decide (o<20))
(f_qfy (λa4 h=>
Q a4 h) h)
(bsel (decide (o > 120))
(f_qfy (λa5 h=>
Q a5 h) h)
(y h))))
def qgm_A:qgm_T:=qgm_G qar_A qbb_A qbo_A qbs_A qca_A qeg_A qez_A qfe_A qfx_A qfy_A qfz_A qgl_A
def qgm_W (f:qgm_T):aX [.c (.i .i64),.c .s,.c (.i .i64),.c (.i .i64),.c (.i .u64)] EnR:=λb c d e g K _Kp=>f b c d e g (λi=>K (.bool i))
end Go.Dn
