/- bootmap.Parse as an entry. -/
import Derived.Test.YtfnkdpmbpgffbaaGreatDnY
import Derived.Test.YtfnkdpmbpgffbaaGreatParseP
namespace Go.Dn
open Go Go.RowKit Go.Shelf Go.Proofs
theorem aCT (s:Sl) (d:List Int) (C:d.length=s.len) (p:s.len<=s.cap) (u:∀ x ∈ d,0<=x/\x<256) (A:AH) (L:Bx) (w:World) (sim:Sim A L w.heap) (y:oU A s.a s.len (d.map (.int .u8))) :
  Calls Tryz.prog 123 #[.slice s.a s.len s.cap] w (oK d w):=by
 obtain ⟨a,n,c⟩:=s
 dsimp only at C p y ⊢
 subst C;by_cases E:1280<d.length
 .exact callsIn_wide.1 (aFN 3 a c d E w)
 by_cases F:d.length % 20≠0
 .exact callsIn_wide.1 (aGu 3 a c d (by omega) F w)
 have D:d.length=20*(d.length / 20):=by omega
 cases a with
 | none=>
  have z:d=[]:=by simpa [oU] using y
  have:=pN 3 (by omega) none 0 0 c 0 d (by simp [z]) (by omega) (λh=>absurd h (by omega)) (by omega) u w (λj k=>by simp [z] at k) (λh=>absurd h (by omega));subst z;exact callsIn_wide.1 this
 | some a=>
  obtain ⟨b,o,sp⟩:=a;obtain ⟨_,f⟩:=y;by_cases t:d=[]
  .have:=pN 3 (by omega) (some ⟨b,o,sp⟩) 0 0 c 0 d (by simp [t]) (by omega) (λh=>absurd h (by omega)) (by omega) u w (λj k=>by simp [t] at k) (λh=>absurd h (by omega));subst t;exact callsIn_wide.1 this
  .have g:0<d.length:=List.length_pos_iff.2 t;have q:∀ i,sp=none->Addr.add ⟨b,o,sp⟩ i=⟨b,o+i,none⟩:=λi e=>by subst e;exact add_at
   have l:sp=none:=by
    obtain ⟨v,_,m⟩:=f 0 g;cases sp with
    | none=>rfl
    | some x=>
     exfalso;unfold bM at m;split at m
     .rw [if_pos (by simp [Addr.add])] at m;cases m
     .cases m
   have G:∀ j,j<d.length->w.cell? ⟨b,o+j,none⟩=some (.int .u8 (d[j]?.getD 0)):=λj k=>by
    obtain ⟨v,m,r⟩:=f j k;rw [q j l] at r;rw [nK,sim.cell r];have:v = .int .u8 d[j]:=by simpa [k] using m.symm
    simp [this,k]
   have B:b<w.heap.size:=by
    obtain ⟨v,_,r⟩:=f 0 g;rw [q 0 l] at r;obtain ⟨I,H⟩:=sim.obj (by rw [r];rfl);exact sim.lt H
   subst l;have:=pN 3 (by omega) (some ⟨b,o,none⟩) b o c (d.length / 20) d D (by omega) (λ_=>rfl) (by omega) u w G (λ_=>B);rw [<-D] at this;exact callsIn_wide.1 this
theorem aNb {T:Type} {R:Sl->T} {args:List Value} {G:T->Prop} (h:kA [.c .s] T R args G):∃ s:Sl,args=[.slice s.a s.len s.cap]/\G (R s):=by
 cases args with
 | nil=>exact h.elim
 | cons v vs=>
  have b:jF .s v λx=>kA [] T (R x) vs G:=h;clear h;cases v<;>simp only [jF] at b<;>first | exact b.elim | skip
  rename_i a n c;cases vs with
  | nil=>exact ⟨⟨a,n,c⟩,rfl,b⟩
  | cons _ _=>exact b.elim
theorem aH5 {W:aX [.c .s] EnR} (y:W=λs K _=>paA 254 s λr k=>K (.tuple #[.slice r.a r.len r.cap,.int .i64 k])):cL Tryz.prog 123 (y5 (bC [.c .s] W)):=by
 subst y;refine ⟨λxs w=>enters_of Tryz.func123 (by kernel_rfl) rfl xs w,λargs K Kp w ⟨A,z,KA,m,s,l,c,_⟩=>?_⟩;have n:kA [.c .s] EnR (λs K _=>paA 254 s λr k=>K (.tuple #[.slice r.a r.len r.cap,.int .i64 k])) args λf=>f KA m A:=l;clear l;obtain ⟨sl,rfl,l⟩:=aNb n;obtain ⟨u,B,d,C,D,c1,c2,E,F⟩:=l;refine (aCT sl u B d C A z w s D).mono ?_;rintro e w' ⟨b,v,k,rfl,i⟩;refine ⟨tX b,?_⟩;rcases i with ⟨a,rfl,rfl⟩ | ⟨a,j,rfl,rfl⟩ | ⟨a,j,o,rfl,rfl⟩ | ⟨a,j,o,G,H,rfl⟩
 .exact c _ A _ (iH s b) (c1 a)
 .exact c _ A _ (iH s b) (c2 a j)
 .exact c _ A _ (iH s b) (E a j o)
 .obtain ⟨I,J⟩:=F a j o;rcases G.2 with ⟨rfl,L⟩ | ⟨g,cap,p,rfl,x,M,N,P,O,q⟩
  .exact c _ A _ (iH s b) (I L)
  .have t:u.length / 20≠0:=λh=>by have:=H.2 h;simp [wY] at this
   exact c _ _ _ (oY s b x M) (J cap p t N O q g (aBZ s x))
end Go.Dn
