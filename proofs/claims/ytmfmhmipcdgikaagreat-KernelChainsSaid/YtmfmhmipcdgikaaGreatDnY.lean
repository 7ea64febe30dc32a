/- Entries of the library's: slices.Collect over maps.Keys, at keys of the kind int. -/
import Derived.Test.YtmfmhmipcdgikaaGreatDnX
import Derived.Shelf.SlIterI.Nil
namespace Go.Dn
open Go.Proofs Go.RowKit Go.Maps Go.Sort Go.Shelf Go.MapKept
def aF3 (x:MapEntry):Int:=match x.key with | .int _ n=>n | _=>0
structure aGZ (es:Array MapEntry) (c:Nat):Prop where
 stamped:Stamped es c
 size:es.size<=17592186044416
 keys:∀ x ∈ es.toList,∃ n:Int,x.key = .int .i64 n/\(Lit.int .i64 n).wf=true
def clA (t:TypeId) (p:Option Addr) (Q:Sl->AP):AP:=λA=>
 ∃ b m,p=some ⟨b,0,none⟩/\bM A ⟨b,0,none⟩=some (.map m)/\match m with
  | none=>Q Sl.nil A
  | some r=>∃ es c,A r=some (.map es c)/\aGZ es c/\∀ ss:List Int,ss.Perm (es.toList.map aF3)->
    (ss=[]->Q Sl.nil A)/\∀ (cap:Nat) (cur:Array Value),ss≠[]->ss.length<=cap->cur.size=cap->cur.toList.take ss.length=ss.map (.int .i64)->
     aT A (.cells cur t) λg=>Q ⟨some ⟨g,0,none⟩,ss.length,cap⟩
theorem gR {A:AH} {L:Bx} {w w':World} (s:Sim A L w.heap) (hb:Below w.heap.size w w'):Sim A L w'.heap:=by
 refine ⟨λb o e=>?_,λe m=>?_,s.apart⟩
 ·rw [hb.block b (s.lt e)];exact s.sub b o e
 ·obtain ⟨h1,h2⟩:=s.box e m;exact ⟨h1,by rw [hb.block _ (s.boxLt m)];exact h2⟩
theorem nB {A:AH} {L:Bx} {w w':World} (s:Sim A L w.heap) (hb:Below w.heap.size w w') {g:Nat} {o:Obj} (hg:w.heap.size<=g) (ho:w'.heap[g]? = some o):Sim (updA A g o) L w'.heap:=by
 refine ⟨λb o' e=>?_,λe m=>?_,s.apart⟩
 ·unfold updA at e;split at e
  ·rename_i q;subst q;rw [ho];exact e
  ·rw [hb.block b (s.lt e)];exact s.sub b o' e
 ·obtain ⟨h1,h2⟩:=s.box e m;refine ⟨?_,by rw [hb.block _ (s.boxLt m)];exact h2⟩;unfold updA;rw [if_neg (by have:=s.boxLt m;omega)];exact h1
theorem aBT {A:AH} {L:Bx} {h:Hp} (s:Sim A L h) {g:Nat} (hg:h.size<=g):A g=none:=by
 cases e:A g with
 | none=>rfl
 | some o=>exact absurd (s.lt e) (by omega)
theorem rT {B:Nat} {w w':World} (h:Below B w w'):Kin false w w':=⟨h.tape,h.os,h.output,λe=>by cases e⟩
abbrev RN:Value->Option (DataW Unit × List MemPlace):=λ_=>some (.nil,[])
theorem aAD {P:Program} {k:TypeId} (hk:P.underlying k=some (.int .i64)) {w:World} {b:Nat} {es:Array MapEntry} {c:Nat} (hb:w.heap[b]? = some (.map es c)) (hm:aGZ es c) :
  ∃ D0:DataW Unit,w.ownsMap P k RN b es.size D0/\(intKeys D0).Perm (es.toList.map aF3)/\Maps.size D0=es.size:=by
 have hrd:∀ x ∈ es.toList,∃ n:Int,aF3 x=n/\Go.WideElems.rd P k RN x=some (.int .i64 n,.nil):=by
  intro x hx;obtain ⟨n,h1,h2⟩:=hm.keys x hx;refine ⟨n,by simp [aF3,h1],?_⟩
  have:keyOf P k x.key=some (.int .i64 n):=by
   simp [keyOf,hk,mapKey,h1,h2]
  simp [Go.WideElems.rd,this]
 refine ⟨.map ((es.toList.map (Go.WideElems.rg P k RN)).foldr DataW.insert []),⟨es,c,hb,⟨Nat.le_trans hm.size (by decide),hm.stamped,λx hx=>?_⟩,Nat.le_refl _,rfl⟩,?_,?_⟩
 ·obtain ⟨n,_,h⟩:=hrd x hx;exact ⟨_,h⟩
 ·show (((es.toList.map (Go.WideElems.rg P k RN)).foldr DataW.insert []).map λp=>intOf p.1).Perm _;refine ((Go.WideShapes.sorted_perm _).map _).trans (List.Perm.of_eq ?_);rw [List.map_map];apply List.map_congr_left;intro x hx;obtain ⟨n,h1,h⟩:=hrd x hx;simp [Go.WideElems.rg,h,intOf,h1]
 ·rw [Maps.size_eq,(Go.WideShapes.sorted_perm _).length_eq];simp
theorem aHO {f:Nat} {T:Type} {R:Option Addr->T} {args:List Value} {G:T->Prop} (h:iK [.fn f [] [.p]] T R args G):∃ p,args=[.func (.func f) #[] #[.pointer p]]/\G (R p):=by
 cases args with
 | nil=>exact h.elim
 | cons v vs=>
  cases v with
  | func fn x y=>
   cases fn with
   | func g=>
    obtain ⟨x⟩:=x;obtain ⟨y⟩:=y
    have h2:(match Nat.beq g f with
     | true=>iI [] (ArC [.p] (aW [] T)) R x λR1=>iI [.p] (aW [] T) R1 y λR2=>iK [] T R2 vs G
     | false=>False):=h
    cases hb:Nat.beq g f with
    | false=>rw [hb] at h2;exact h2.elim
    | true=>
     rw [hb] at h2;have h3:iI [] (ArC [.p] (aW [] T)) R x λR1=>iI [.p] (aW [] T) R1 y λR2=>iK [] T R2 vs G:=h2;clear h h2;have hb:=gC.1 hb;subst hb;cases x with
     | cons _ _=>exact h3.elim
     | nil=>
      cases y with
      | nil=>exact h3.elim
      | cons v ys=>
       cases v with
       | pointer p=>
        cases ys with
        | cons _ _=>exact h3.elim
        | nil=>
         cases vs with
         | cons _ _=>exact h3.elim
         | nil=>exact ⟨p,rfl,h3⟩
       | _=>exact h3.elim
   | _=>exact h.elim
  | _=>exact h.elim
theorem uJ {P:Program} {ρ ρ':Ren} (L:SlLaysZI.n8 P ρ) (L':SlLaysZI.n10 P ρ') {f g:FuncId} {t:TypeId} (hf:ρ.f 8=f) (hg:ρ'.f 10=g) (ht:ρ.t 26=t) {W:aW [.fn g [] [.p]] EnR} (hW:W=λp K _=>clA t p λs=>K (.slice s.a s.len s.cap)) :
  bA P f (k8 (bB [.fn g [] [.p]] W)):=by
 subst hf hg ht hW;refine ⟨λxs w=>L.f8.enters rfl xs w,λargs K Kp w ⟨A,L0,KA,KpA,s,hh,hk,_⟩=>?_⟩;have hh1:iK [.fn (ρ'.f 10) [] [.p]] EnR (λp K _=>clA (ρ.t 26) p λs=>K (.slice s.a s.len s.cap)) args λf=>f KA KpA A:=hh;clear hh;obtain ⟨p,rfl,hh2⟩:=aHO hh1;clear hh1;obtain ⟨b,m,rfl,hc,hh⟩:=hh2
 have hbl:b<w.heap.size:=by
  have:(bM A ⟨b,0,none⟩).isSome=true:=by rw [hc];rfl
  obtain ⟨o,ho⟩:=s.obj this;exact s.lt ho
 have hcell:w.cell? ⟨b,0,none⟩=some (.map m):=by
  have h0:=s.cell hc
  revert h0
  unfold dS World.cell?;simp only;cases w.heap[b]? with
  | none=>simp
  | some o=>cases o<;>simp
 have eg:∀ args w,(callFunc (ρ'.f 10) args).run P w = .ok (.enter (ρ'.f 10) args) w:=L'.f10.enters rfl;cases m with
 | none=>
  have cC:=AnyZI.collect_in L Fence.wide 3 trivial trivial rfl (by omega) (ρ'.f 10) #[.pointer (some ⟨b,0,none⟩)] trivial eg _ 0 (Nat.zero_le _) (by omega) w
   (AnyZI.keys_gives_nil L' Fence.wide _ trivial rfl b w hbl hcell)
  refine (callsIn_wide.1 cC).mono ?_;rintro e w' ⟨v,ss,rfl,rfl,hrow,hnil,hb⟩;refine ⟨rT hb,?_⟩;rw [hnil.2 rfl];exact hk _ A _ (gR s hb) hh
 | some r=>
  obtain ⟨es,c,hr,hm,hh⟩:=hh;obtain ⟨D0,h1,h2,h3⟩:=aAD (k:=ρ'.t 26) L'.t26 (s.sub r _ hr) hm;have hsz:Maps.size D0<=17592186044416:=by rw [h3];exact hm.size
  have cC:=AnyZI.collect_in L Fence.wide 3 trivial trivial rfl (by omega) (ρ'.f 10) #[.pointer (some ⟨b,0,none⟩)] trivial eg _ (Maps.size D0) (Nat.le_trans hsz (by decide)) (by omega) w
   (AnyZI.keys_gives L' Fence.wide _ trivial rfl (by omega) b r _ D0 w hbl hcell h1)
  refine (callsIn_wide.1 cC).mono ?_;rintro e w' ⟨v,ss,rfl,hS,hrow,hnil,hb⟩;refine ⟨rT hb,?_⟩;obtain ⟨g1,g2⟩:=hh ss (hS.trans h2);by_cases he:ss=[]
  ·rw [hnil.2 he];exact hk _ A _ (gR s hb) (g1 he)
  ·rcases hrow.2 with ⟨h4,_⟩ | ⟨g,cap,cur,rfl,h5,h6,h7,h8,h9,h10⟩
   ·exact absurd (hnil.1 h4) he
   ·have hbase:w.heap.size<=g:=h5;exact hk _ _ _ (nB s hb hbase h6) (g2 cap cur he h7 (by simpa using h9) (by simpa [encZ] using h10) g (aBT s hbase))
end Go.Dn
