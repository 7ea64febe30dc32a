/- Entries of the library's: slices.Collect over maps.Keys, at keys of the kind int. -/
import Derived.Test.YtfnkdpmbpgffbaaGreatDnX
import Derived.Shelf.SlIterI.Nil
namespace Go.Dn
open Go.Proofs Go.RowKit Go.Maps Go.Sort Go.Shelf Go.MapKept
def aIp (x:MapEntry):Int:=match x.key with | .int _ n=>n | _=>0
structure aId (es:Array MapEntry) (c:Nat):Prop where
 stamped:Stamped es c
 size:es.size<=17592186044416
 keys:∀ x ∈ es.toList,∃ n:Int,x.key = .int .i64 n/\(Lit.int .i64 n).wf=true
def clA (t:TypeId) (p:Option Addr) (Q:Sl->AP):AP:=λA=>
 ∃ b m,p=some ⟨b,0,none⟩/\bM A ⟨b,0,none⟩=some (.map m)/\match m with
  | none=>Q Sl.nil A
  | some r=>∃ es c,A r=some (.map es c)/\aId es c/\∀ ss:List Int,ss.Perm (es.toList.map aIp)->
    (ss=[]->Q Sl.nil A)/\∀ (cap:Nat) (cur:Array Value),ss≠[]->ss.length<=cap->cur.size=cap->cur.toList.take ss.length=ss.map (.int .i64)->
     aN A (.cells cur t) λg=>Q ⟨some ⟨g,0,none⟩,ss.length,cap⟩
theorem iH {A:AH} {L:Bx} {w w':World} (s:Sim A L w.heap) (a:Below w.heap.size w w'):Sim A L w'.heap:=by
 refine ⟨λb o e=>?_,λe m=>?_,s.apart⟩
 .rw [a.block b (s.lt e)];exact s.sub b o e
 .obtain ⟨c,d⟩:=s.box e m;exact ⟨c,by rw [a.block _ (s.boxLt m)];exact d⟩
theorem oY {A:AH} {L:Bx} {w w':World} (s:Sim A L w.heap) (a:Below w.heap.size w w') {g:Nat} {o:Obj} (h:w.heap.size<=g) (i:w'.heap[g]? = some o):Sim (updA A g o) L w'.heap:=by
 refine ⟨λb c e=>?_,λe m=>?_,s.apart⟩
 .unfold updA at e;split at e
  .simp_all
  .rw [a.block b (s.lt e)];exact s.sub b c e
 .obtain ⟨d,f⟩:=s.box e m;refine ⟨?_,by rw [a.block _ (s.boxLt m)];exact f⟩;unfold updA;rw [if_neg (by grind)];exact d
theorem aBZ {A:AH} {L:Bx} {h:Hp} (s:Sim A L h) {g:Nat} (a:h.size<=g):A g=none:=by
 cases e:A g with
 | none=>rfl
 | some o=>exact absurd (s.lt e) (by omega)
theorem tX {B:Nat} {w w':World} (h:Below B w w'):Kin false w w':=⟨h.tape,h.os,h.output,λe=>by cases e⟩
abbrev RN:Value->Option (DataW Unit × List MemPlace):=λ_=>some (.nil,[])
theorem aCM {P:Program} {k:TypeId} (j:P.underlying k=some (.int .i64)) {w:World} {b:Nat} {a:Array MapEntry} {c:Nat} (l:w.heap[b]? = some (.map a c)) (f:aId a c) :
  ∃ g:DataW Unit,w.ownsMap P k RN b a.size g/\(intKeys g).Perm (a.toList.map aIp)/\Maps.size g=a.size:=by
 have i:∀ x ∈ a.toList,∃ n:Int,aIp x=n/\Go.WideElems.rd P k RN x=some (.int .i64 n,.nil):=by
  intro x d;obtain ⟨n,e,m⟩:=f.keys x d;refine ⟨n,by simp [aIp,e],?_⟩
  have:keyOf P k x.key=some (.int .i64 n):=by
   simp [keyOf,j,mapKey,e,m]
  simp [Go.WideElems.rd,this]
 refine ⟨.map ((a.toList.map (Go.WideElems.rg P k RN)).foldr DataW.insert []),⟨a,c,l,⟨Nat.le_trans f.size (by decide),f.stamped,λx d=>?_⟩,Nat.le_refl _,rfl⟩,?_,?_⟩
 .simp_all
 .show (((a.toList.map (Go.WideElems.rg P k RN)).foldr DataW.insert []).map λp=>intOf p.1).Perm _;refine ((Go.WideShapes.sorted_perm _).map _).trans (List.Perm.of_eq ?_);rw [List.map_map];apply List.map_congr_left;intro x d;obtain ⟨n,e,h⟩:=i x d;simp [Go.WideElems.rg,h,intOf,e]
 .rw [Maps.size_eq,(Go.WideShapes.sorted_perm _).length_eq];simp
theorem aJv {f:Nat} {T:Type} {R:Option Addr->T} {args:List Value} {G:T->Prop} (h:kA [.fn f [] [.p]] T R args G):∃ p,args=[.func (.func f) #[] #[.pointer p]]/\G (R p):=by
 cases args with
 | nil=>exact h.elim
 | cons v vs=>
  cases v with
  | func i x y=>
   cases i with
   | func g=>
    obtain ⟨x⟩:=x;obtain ⟨y⟩:=y
    have b:(match Nat.beq g f with
     | true=>kS [] (ArC [.p] (aX [] T)) R x λd=>kS [.p] (aX [] T) d y λe=>kA [] T e vs G
     | false=>False):=h
    cases c:Nat.beq g f with
    | false=>rw [c] at b;exact b.elim
    | true=>
     rw [c] at b;have a:kS [] (ArC [.p] (aX [] T)) R x λd=>kS [.p] (aX [] T) d y λe=>kA [] T e vs G:=b;clear h b;have c:=lX.1 c;subst c;cases x with
     | cons _ _=>exact a.elim
     | nil=>
      cases y with
      | nil=>exact a.elim
      | cons v j=>
       cases v with
       | pointer p=>
        cases j with
        | cons _ _=>exact a.elim
        | nil=>
         cases vs with
         | cons _ _=>exact a.elim
         | nil=>exact ⟨p,rfl,a⟩
       | _=>exact a.elim
   | _=>exact h.elim
  | _=>exact h.elim
theorem xG {P:Program} {ρ ρ':Ren} (L:SlLaysZI.n8 P ρ) (L':SlLaysZI.n10 P ρ') {f g:FuncId} {t:TypeId} (hf:ρ.f 8=f) (hg:ρ'.f 10=g) (ht:ρ.t 26=t) {W:aX [.fn g [] [.p]] EnR} (hW:W=λp K _=>clA t p λs=>K (.slice s.a s.len s.cap)) :
  cL P f (y5 (bC [.fn g [] [.p]] W)):=by
 subst hf hg ht hW;refine ⟨λxs w=>L.f8.enters rfl xs w,λargs K Kp w ⟨A,L0,KA,KpA,s,hh,hk,_⟩=>?_⟩;have hh1:kA [.fn (ρ'.f 10) [] [.p]] EnR (λp K _=>clA (ρ.t 26) p λs=>K (.slice s.a s.len s.cap)) args λf=>f KA KpA A:=hh;clear hh;obtain ⟨p,rfl,hh2⟩:=aJv hh1;clear hh1;obtain ⟨b,m,rfl,hc,hh⟩:=hh2
 have hbl:b<w.heap.size:=by
  have:(bM A ⟨b,0,none⟩).isSome=true:=by rw [hc];rfl
  obtain ⟨o,ho⟩:=s.obj this;exact s.lt ho
 have hcell:w.cell? ⟨b,0,none⟩=some (.map m):=by
  have h0:=s.cell hc
  revert h0
  unfold dI World.cell?;simp only;cases w.heap[b]? with
  | none=>simp
  | some o=>cases o<;>simp
 have eg:∀ args w,(callFunc (ρ'.f 10) args).run P w = .ok (.enter (ρ'.f 10) args) w:=L'.f10.enters rfl;cases m with
 | none=>
  have cC:=AnyZI.collect_in L Fence.wide 3 trivial trivial rfl (by omega) (ρ'.f 10) #[.pointer (some ⟨b,0,none⟩)] trivial eg _ 0 (Nat.zero_le _) (by omega) w
   (AnyZI.keys_gives_nil L' Fence.wide _ trivial rfl b w hbl hcell)
  refine (callsIn_wide.1 cC).mono ?_;rintro e w' ⟨v,ss,rfl,rfl,hrow,hnil,hb⟩;refine ⟨tX hb,?_⟩;rw [hnil.2 rfl];exact hk _ A _ (iH s hb) hh
 | some r=>
  obtain ⟨es,c,hr,hm,hh⟩:=hh;obtain ⟨D0,h1,h2,h3⟩:=aCM (k:=ρ'.t 26) L'.t26 (s.sub r _ hr) hm;have hsz:Maps.size D0<=17592186044416:=by rw [h3];exact hm.size
  have cC:=AnyZI.collect_in L Fence.wide 3 trivial trivial rfl (by omega) (ρ'.f 10) #[.pointer (some ⟨b,0,none⟩)] trivial eg _ (Maps.size D0) (Nat.le_trans hsz (by decide)) (by omega) w
   (AnyZI.keys_gives L' Fence.wide _ trivial rfl (by omega) b r _ D0 w hbl hcell h1)
  refine (callsIn_wide.1 cC).mono ?_;rintro e w' ⟨v,ss,rfl,hS,hrow,hnil,hb⟩;refine ⟨tX hb,?_⟩;obtain ⟨g1,g2⟩:=hh ss (hS.trans h2);by_cases he:ss=[]
  ·rw [hnil.2 he];exact hk _ A _ (iH s hb) (g1 he)
  ·rcases hrow.2 with ⟨h4,_⟩ | ⟨g,cap,cur,rfl,h5,h6,h7,h8,h9,h10⟩
   ·simp_all
   ·have hbase:w.heap.size<=g:=h5;exact hk _ _ _ (oY s hb hbase h6) (g2 cap cur he h7 (by omega) (by simp_all) g (aBZ s hbase))
end Go.Dn
