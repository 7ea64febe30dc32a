/- bootmap.Parse as an entry. -/
import Derived.Test.YtmfmhmipcdgikaaGreatDnY
import Derived.Test.YtmfmhmipcdgikaaGreatParseP
namespace Go.Dn
open Go Go.RowKit Go.Shelf Go.Proofs
theorem aBf (s:Sl) (bs:List Int) (hl:bs.length=s.len) (hcap:s.len<=s.cap) (hb:∀ x ∈ bs,0<=x/\x<256) (A:AH) (L:Bx) (w:World) (sim:Sim A L w.heap) (hr:lC A s.a s.len (bs.map (.int .u8))) :
  Calls Tryz.prog 82 #[.slice s.a s.len s.cap] w (mU bs w):=by
 obtain ⟨a,n,c⟩:=s
 dsimp only at hl hcap hr ⊢
 subst hl;by_cases h1:1280<bs.length
 ·exact callsIn_wide.1 (aFo 3 a c bs h1 w)
 by_cases h2:bs.length % 20≠0
 ·exact callsIn_wide.1 (aEq 3 a c bs (by omega) h2 w)
 have hm:bs.length=20*(bs.length / 20):=by omega
 cases a with
 | none=>
  have h3:bs=[]:=by simpa [lC] using hr
  have:=oL 3 (by omega) none 0 0 c 0 bs (by simp [h3]) (by omega) (λh=>absurd h (by omega)) (by omega) hb w (λj hj=>by simp [h3] at hj) (λh=>absurd h (by omega));subst h3;exact callsIn_wide.1 this
 | some a=>
  obtain ⟨b,o,sp⟩:=a;obtain ⟨_,hcell⟩:=hr;by_cases h0:bs=[]
  ·have:=oL 3 (by omega) (some ⟨b,o,sp⟩) 0 0 c 0 bs (by simp [h0]) (by omega) (λh=>absurd h (by omega)) (by omega) hb w (λj hj=>by simp [h0] at hj) (λh=>absurd h (by omega));subst h0;exact callsIn_wide.1 this
  ·have hpos:0<bs.length:=List.length_pos_iff.2 h0;have adA:∀ i,sp=none->Addr.add ⟨b,o,sp⟩ i=⟨b,o+i,none⟩:=λi e=>by subst e;exact add_at
   have hsp:sp=none:=by
    obtain ⟨v,_,h6⟩:=hcell 0 hpos;cases sp with
    | none=>rfl
    | some x=>
     exfalso;unfold bM at h6;split at h6
     ·rw [if_pos (by simp [Addr.add])] at h6;cases h6
     ·cases h6
   have hc:∀ j,j<bs.length->w.cell? ⟨b,o+j,none⟩=some (.int .u8 (bs[j]?.getD 0)):=λj hj=>by
    obtain ⟨v,h6,h7⟩:=hcell j hj;rw [adA j hsp] at h7;rw [lX,sim.cell h7];have:v = .int .u8 bs[j]:=by simpa [hj] using h6.symm
    simp [this,hj]
   have hbl:b<w.heap.size:=by
    obtain ⟨v,_,h7⟩:=hcell 0 hpos;rw [adA 0 hsp] at h7;obtain ⟨ob,ho⟩:=sim.obj (by rw [h7];rfl);exact sim.lt ho
   subst hsp;have:=oL 3 (by omega) (some ⟨b,o,none⟩) b o c (bs.length / 20) bs hm (by omega) (λ_=>rfl) (by omega) hb w hc (λ_=>hbl);rw [<-hm] at this;exact callsIn_wide.1 this
theorem aLr {T:Type} {R:Sl->T} {args:List Value} {G:T->Prop} (h:iK [.c .s] T R args G):∃ s:Sl,args=[.slice s.a s.len s.cap]/\G (R s):=by
 cases args with
 | nil=>exact h.elim
 | cons v vs=>
  have h1:gQ .s v λx=>iK [] T (R x) vs G:=h;clear h;cases v<;>simp only [gQ] at h1<;>first | exact h1.elim | skip
  rename_i a n c;cases vs with
  | nil=>exact ⟨⟨a,n,c⟩,rfl,h1⟩
  | cons _ _=>exact h1.elim
theorem aFY {W:aW [.c .s] EnR} (hW:W=λs K _=>paA 201 s λr k=>K (.tuple #[.slice r.a r.len r.cap,.int .i64 k])):bA Tryz.prog 82 (k8 (bB [.c .s] W)):=by
 subst hW;refine ⟨λxs w=>enters_of Tryz.func82 (by kernel_rfl) rfl xs w,λargs K Kp w ⟨A,L0,KA,KpA,s,hh,hk,_⟩=>?_⟩;have hh1:iK [.c .s] EnR (λs K _=>paA 201 s λr k=>K (.tuple #[.slice r.a r.len r.cap,.int .i64 k])) args λf=>f KA KpA A:=hh;clear hh;obtain ⟨sl,rfl,hh⟩:=aLr hh1;obtain ⟨bs,hl,hcap,hb,hr,c1,c2,c3,c4⟩:=hh;refine (aBf sl bs hl hcap hb A L0 w s hr).mono ?_;rintro e w' ⟨hB,v,k,rfl,hout⟩;refine ⟨rT hB,?_⟩;rcases hout with ⟨g1,rfl,rfl⟩ | ⟨g1,g2,rfl,rfl⟩ | ⟨g1,g2,g3,rfl,rfl⟩ | ⟨g1,g2,g3,g4,g5,rfl⟩
 ·exact hk _ A _ (gR s hB) (c1 g1)
 ·exact hk _ A _ (gR s hB) (c2 g1 g2)
 ·exact hk _ A _ (gR s hB) (c3 g1 g2 g3)
 ·obtain ⟨d1,d2⟩:=c4 g1 g2 g3;rcases g4.2 with ⟨rfl,h0⟩ | ⟨g,cap,cur,rfl,h5,h6,h7,h8,h9,h10⟩
  ·exact hk _ A _ (gR s hB) (d1 h0)
  ·have hne:bs.length / 20≠0:=λh=>by have:=g5.2 h;simp [wN] at this
   exact hk _ _ _ (nB s hB h5 h6) (d2 cap cur hne h7 h9 h10 g (aBT s h5))
end Go.Dn
