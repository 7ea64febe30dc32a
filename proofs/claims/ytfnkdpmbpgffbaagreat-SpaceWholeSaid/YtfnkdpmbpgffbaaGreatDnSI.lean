/- Entries of the library's: slices.Sort at whole numbers. -/
import Derived.Test.YtfnkdpmbpgffbaaGreatDnZ
import Derived.Shelf.Sort.Plain
import Derived.Shelf.Slices.In.SortNone
import Derived.Shelf.Lay
import Derived.Shelf.SlGeneric
import Derived.Ground.NamesProg
namespace Go.Dn
open Go.Proofs Go.RowKit Go.Sort Go.Shelf
def soI (s:Sl) (K:AP):AP:=λA=>
 ∃ d:List Int,d.length=s.len/\s.len<4611686018427387904/\oU A s.a s.len (d.map (.int .i64))/\(∀ a,s.a=some a->∀ i,i<s.len->uX A (a.add i)=false)/\
  zB s.a 0 ((d.mergeSort λx y=>decide (x<=y)).map (.int .i64)) A K
theorem aMc {T:Type} {R:Sl->T} {args:List Value} {G:T->Prop} (h:kA [.c .s] T R args G):∃ s:Sl,args=[.slice s.a s.len s.cap]/\G (R s):=by
 cases args with
 | nil=>exact h.elim
 | cons v vs=>
  have b:jF .s v λx=>kA [] T (R x) vs G:=h;clear h;cases v<;>simp only [jF] at b<;>first | exact b.elim | skip
  rename_i a n c;cases vs with
  | cons _ _=>exact b.elim
  | nil=>exact ⟨⟨a,n,c⟩,rfl,b⟩
theorem aBI (off:Nat) (d:List Int) (c:Array Value):Go.Sort.putCells (Value.int .i64) off d.toArray c=Go.Sort.putCells id off (d.map (Value.int .i64)).toArray c:=by
 unfold Go.Sort.putCells;apply Array.ext (by simp);intro j a b;simp only [Array.getElem_mapIdx,List.size_toArray,List.length_map];by_cases g:off<=j/\j<off+d.length
 .grind
 .grind
theorem aIl {P:Program} {ρ:Ren} (L:Lays.n189 P ρ) {f:FuncId} (hf:ρ.f 189=f) (he:∀ (xs:Array Value) (w:World),(callFunc f xs).run P w = .ok (.enter f xs) w)
  {W:aX [.c .s] EnR} (hW:W=λs K _=>soI s (K (.tuple #[]))):cL P f (y5 (bC [.c .s] W)):=by
 subst hf hW;refine ⟨he,λargs K Kp w ⟨A,L0,KA,KpA,s,hh,hk',_⟩=>?_⟩;have hh1:kA [.c .s] EnR (λs K _=>soI s (K (.tuple #[]))) args λf=>f KA KpA A:=hh;clear hh;obtain ⟨sl,rfl,d,hd,hbig,hrow,hfr,hh2⟩:=aMc hh1;clear hh1;obtain ⟨a,n,c⟩:=sl
 dsimp only at hd hbig hrow hfr hh2 ⊢
 subst hd;by_cases he:d=[]
 ·subst he
  have hh3:KA (.tuple #[]) A:=by
   simp only [List.mergeSort_nil,List.map_nil] at hh2;cases a<;>exact hh2
  refine (Any.slices_Sort_int_none L a c w).mono ?_;rintro e w' ⟨rfl,rfl⟩;exact ⟨Kin.refl _ _,hk' _ A _ s hh3⟩
 ·have h4:0<d.length:=List.length_pos_iff.2 he;cases a with
  | none=>
   have h2:d.map (Value.int .i64)=[]:=hrow;exact absurd (List.map_eq_nil_iff.1 h2) he
  | some a=>
   obtain ⟨b,o,sp⟩:=a;obtain ⟨hl,hcell⟩:=hrow
   have hsp:sp=none:=by
    obtain ⟨v,_,h6⟩:=hcell 0 h4;cases sp with
    | none=>rfl
    | some x=>
     exfalso;unfold bM at h6;split at h6
     ·rw [if_pos (by simp [Addr.add])] at h6;cases h6
     ·cases h6
   subst hsp
   have adA:∀ i,Addr.add ⟨b,o,none⟩ i=⟨b,o+i,none⟩:=λi=>by
    unfold Addr.add;split
    ·simp_all
    ·rfl
   have hH:Holds (Value.int .i64) w b o d.toArray:=by
    intro j hj;have hj':j<d.length:=by simpa using hj
    obtain ⟨v,h6,h7⟩:=hcell j hj';rw [adA] at h7;have h8:=hfr _ rfl j hj';rw [adA] at h8;refine ⟨?_,?_⟩
    ·rw [nK,s.cell h7,getElem!_pos _ j hj];congr 1;have h9:(d.map (Value.int .i64))[j]? = some (.int .i64 d[j]):=by simp [hj']
     rw [h9] at h6;simpa using (Option.some.inj h6).symm
    ·show uN w.heap _=false;rw [s.froz (by simp_all)];exact h8
   have hb:b<w.heap.size:=by
    obtain ⟨v,_,h7⟩:=hcell 0 h4;rw [adA] at h7;obtain ⟨ob,ho⟩:=s.obj (by rw [h7];rfl);exact s.lt ho
   refine (Any.slices_Sort_int L b o c d w hH hb (by omega)).mono ?_;rintro e w' ⟨rfl,m,os,rfl⟩;have h10:vB ((d.mergeSort λx y=>decide (x<=y)).map (Value.int .i64)) (Addr.add ⟨b,o,none⟩ 0) 0 A (KA (.tuple #[])):=hh2;rw [adA] at h10;refine ⟨⟨rfl,rfl,rfl,λe=>by cases e⟩,?_⟩;generalize hss:(d.mergeSort λx y=>decide (x<=y))=ss at h10 ⊢;have hsl:ss.length=d.length:=by rw [<-hss];exact List.length_mergeSort d
   have h11:stL (ss.map (Value.int .i64)) ⟨b,o+0,none⟩ 0 w.heap λh'=>∃ A',Sim A' L0 h'/\KA (.tuple #[]) A':=nF _ _ _ _ _ _ _ s h10 λA' h' s' hk2=>⟨A',s',hk2⟩;obtain ⟨A',s',h12⟩:=aA9 _ 0 (Sort.ahead w m) h11;refine hk' _ A' _ ?_ h12
   have e0:∀ (x:List Int),putRow (Value.int .i64) (Sort.ahead w m) b o x.toArray=putRow id (Sort.ahead w m) b o (x.map (Value.int .i64)).toArray:=λx=>by
    unfold putRow;congr 1;funext c;exact aBI o x c
   have h13:(Sort.ahead w m).setCells b (o+0+0) (ss.map (Value.int .i64))=putRow (Value.int .i64) (Sort.ahead w m) b o ss.toArray:=by
    have e1:putRow id (Sort.ahead w m) b o (d.map (Value.int .i64)).toArray=Sort.ahead w m:=by
     rw [<-e0];exact putRow_self (Value.int .i64) _ b o _ hH
    have e2:=setCells_putRow (Sort.ahead w m) b o (ss.map (Value.int .i64)) 0 (d.map (Value.int .i64)).toArray (by simp [hsl]);rw [e1,u7 _ _ (by simp [hsl])] at e2;rw [e0];exact e2
   rw [h13] at s';exact s'.grown os
end Go.Dn
