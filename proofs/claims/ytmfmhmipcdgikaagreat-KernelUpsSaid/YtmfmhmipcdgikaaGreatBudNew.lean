/- What the proof stands on: Bits, Blocks, Buddy, BudNew. -/
import Derived.Test.YtmfmhmipcdgikaaGreatG
import Derived.Test.YtmfmhmipcdgikaaGreatDnN
import Derived.Test.YtmfmhmipcdgikaaGreatWords
/- A number's bits, one of which is turned or struck. -/
namespace Go.Dn
theorem pow_small {k:Nat} (hk:k≤20):(2:Int) ^ k≤1048576∧(0:Int)<2 ^ k:=by
 refine ⟨?_,Int.pow_pos (by omega)⟩
 have:(2:Nat) ^ k≤2 ^ 20:=Nat.pow_le_pow_right (by omega) hk
 have h2:((2 ^ k:Nat):Int)≤((2 ^ 20:Nat):Int):=Int.ofNat_le.2 this
 simpa using h2
theorem shl1 {k:Nat} (hk:k≤20) (c:Int) (h0:0≤c) (h1:c≤4):IntKind.wrap .i64 (c*2 ^ (min (Int.toNat (k:Int)) 64))=c*2 ^ k:=by
 have:=pow_small hk
 rw [show min (Int.toNat (k:Int)) 64=k by omega]
 have h2:c*2 ^ k≤4*1048576:=Int.mul_le_mul h1 this.1 (by omega) (by omega)
 have h3:0≤c*2 ^ k:=Int.mul_nonneg h0 (by omega)
 rw [w64]<;>omega
theorem nxor1 (q:Nat):q ^^^ 1=if q % 2=0 then q+1 else q-1:=by
 have h1:(q ^^^ 1) / 2=q / 2:=by simpa using Nat.xor_div_two (a:=q) (b:=1)
 have h2:(q ^^^ 1) % 2=(q+1) % 2:=by
  have h3:(q ^^^ 1) % 2 ^ 1=(q % 2 ^ 1) ^^^ (1 % 2 ^ 1):=Nat.xor_mod_two_pow
  rcases Nat.mod_two_eq_zero_or_one q with h | h
  ·simp only [Nat.pow_one,h] at h3
   have h3:(q ^^^ 1) % 2=1:=h3
   omega
  ·simp only [Nat.pow_one,h] at h3
   have h3:(q ^^^ 1) % 2=0:=h3
   omega
 split<;>omega
theorem nxor (q k:Nat):(2 ^ k*q) ^^^ 2 ^ k=if q % 2=0 then 2 ^ k*q+2 ^ k else 2 ^ k*q-2 ^ k:=by
 have h:(2 ^ k*q) ^^^ 2 ^ k=2 ^ k*(q ^^^ 1):=by
  have:=Nat.shiftLeft_xor_distrib (a:=q) (b:=1) (i:=k)
  simp only [Nat.shiftLeft_eq,Nat.one_mul] at this
  rw [Nat.mul_comm,← this,Nat.mul_comm]
 rw [h,nxor1]
 split
 ·rw [Nat.mul_add,Nat.mul_one]
 ·rw [Nat.mul_sub,Nat.mul_one]
theorem bits_xor {x y:Nat} (hx:x<2 ^ 62) (hy:y<2 ^ 62):bits .xor .i64 x y=((x ^^^ y:Nat):Int):=by
 have h1:x ^^^ y<2 ^ 62:=Nat.xor_lt_two_pow hx hy
 have h2:bits .xor .i64 x y=IntKind.wrap .i64 ((BitVec.ofInt 64 x ^^^ BitVec.ofInt 64 y).toNat:Int):=rfl
 rw [h2,BitVec.toNat_xor,BitVec.ofInt_natCast,BitVec.ofInt_natCast,BitVec.toNat_ofNat,BitVec.toNat_ofNat,Nat.mod_eq_of_lt (by omega),Nat.mod_eq_of_lt (by omega)]
 exact w64 (by omega) (by omega)
theorem xor_at {k:Nat} {q:Int} (hk:k≤20) (h0:0≤q) (h1:2 ^ k*q≤2097152):bits .xor .i64 (2 ^ k*q) (2 ^ k)=if q % 2=0 then 2 ^ k*q+2 ^ k else 2 ^ k*q-2 ^ k:=by
 obtain ⟨q,rfl⟩:=Int.eq_ofNat_of_zero_le h0
 have hp:=pow_small hk
 have e1:((2:Int) ^ k*(q:Int))=((2 ^ k*q:Nat):Int):=by simp
 have e2:((2:Int) ^ k)=((2 ^ k:Nat):Int):=by simp
 rw [e1,e2,bits_xor (by omega) (by omega),nxor]
 rw [e1] at h1
 have e3:((q:Int) % 2=0)↔(q % 2=0):=by omega
 by_cases g:q % 2=0
 ·rw [if_pos g,if_pos (e3.2 g)];omega
 ·rw [if_neg g,if_neg (fun h=>g (e3.1 h))]
  have:2 ^ k≤2 ^ k*q:=Nat.le_mul_of_pos_right _ (by omega)
  omega
theorem nand (q k:Nat):(2 ^ k*q)&&& 2 ^ k=if q % 2=0 then 0 else 2 ^ k:=by
 have h:(2 ^ k*q)&&& 2 ^ k=2 ^ k*(q&&& 1):=by
  have:=Nat.shiftLeft_and_distrib (a:=q) (b:=1) (i:=k)
  simp only [Nat.shiftLeft_eq,Nat.one_mul] at this
  rw [Nat.mul_comm,← this,Nat.mul_comm]
 rw [h,Nat.and_one_is_mod]
 split
 ·rename_i g;rw [g,Nat.mul_zero]
 ·rw [show q % 2=1 by omega,Nat.mul_one]
theorem andNot_at {k:Nat} {q:Int} (hk:k≤20) (h0:0≤q) (h1:2 ^ k*q≤2097152):bits .andNot .i64 (2 ^ k*q) (2 ^ k)=if q % 2=0 then 2 ^ k*q else 2 ^ k*q-2 ^ k:=by
 obtain ⟨q,rfl⟩:=Int.eq_ofNat_of_zero_le h0
 have hp:=pow_small hk
 have e1:((2:Int) ^ k*(q:Int))=((2 ^ k*q:Nat):Int):=by simp
 have e2:((2:Int) ^ k)=((2 ^ k:Nat):Int):=by simp
 rw [e1] at h1
 rw [e1,e2]
 have h2:bits .andNot .i64 ((2 ^ k*q:Nat):Int) ((2 ^ k:Nat):Int)=IntKind.wrap .i64 ((BitVec.ofInt 64 ((2 ^ k*q:Nat):Int)&&& ~~~ BitVec.ofInt 64 ((2 ^ k:Nat):Int)).toNat:Int):=rfl
 have hb:BitVec.ofInt 64 ((2 ^ k*q:Nat):Int)&&& ~~~ BitVec.ofInt 64 ((2 ^ k:Nat):Int)=BitVec.ofInt 64 ((2 ^ k*q:Nat):Int) ^^^ (BitVec.ofInt 64 ((2 ^ k*q:Nat):Int)&&& BitVec.ofInt 64 ((2 ^ k:Nat):Int)):=by
  ext i hi
  simp
  cases (BitVec.ofInt 64 ((2:Int) ^ k*(q:Int)))[i]<;>simp
 rw [h2,hb,BitVec.toNat_xor,BitVec.toNat_and,BitVec.ofInt_natCast,BitVec.ofInt_natCast,BitVec.toNat_ofNat,BitVec.toNat_ofNat,Nat.mod_eq_of_lt (by omega),Nat.mod_eq_of_lt (by omega),nand]
 have e3:((q:Int) % 2=0)↔(q % 2=0):=by omega
 by_cases g:q % 2=0
 ·rw [if_pos g,if_pos (e3.2 g),Nat.xor_zero,w64]<;>omega
 ·rw [if_neg g,if_neg (fun h=>g (e3.1 h)),nxor,if_neg g]
  have:2 ^ k≤2 ^ k*q:=Nat.le_mul_of_pos_right _ (by omega)
  rw [w64]<;>omega
end Go.Dn
/- Free frames as blocks of powers of two: what a block more or less makes of them. -/
namespace Go.Dn
def total (st:Nat→List Int):Nat→Int
 | 0=>0
 | k+1=>total st k+(st k).length*2 ^ k
def updF {α:Type} (st:Nat→α) (o:Nat) (l:α):Nat→α:=fun k=>if k=o then l else st k
structure BOK (st:Nat→List Int) (F:Int→Prop) (n:Int):Prop where
 rng:∀ o a,o≤10→a ∈ st o→0≤a∧a+2 ^ o≤1048576∧∃ q,a=2 ^ o*q
 nd:∀ o,o≤10→(st o).Nodup
 apart:∀ o a o' a' x,o≤10→o'≤10→a ∈ st o→a' ∈ st o'→a≤x→x<a+2 ^ o→a'≤x→x<a'+2 ^ o'→o=o'∧a=a'
 cov:∀ x,F x↔∃ o a,o≤10∧a ∈ st o∧a≤x∧x<a+2 ^ o
 sum:n=total st 11
theorem two_pos (o:Nat):(0:Int)<2 ^ o:=Int.pow_pos (by omega)
theorem updF_same {α:Type} {st:Nat→α} {o:Nat} {l:α}:updF st o l o=l:=if_pos rfl
theorem updF_ne {α:Type} {st:Nat→α} {o k:Nat} {l:α} (h:k≠o):updF st o l k=st k:=if_neg h
theorem total_upd (st:Nat→List Int) (o:Nat) (l:List Int):∀ k,total (updF st o l) k=total st k+if o<k then ((l.length:Int)-(st o).length)*2 ^ o else 0
 | 0=>by simp [total]
 | k+1=>by
  simp only [total,total_upd st o l k]
  by_cases e:k=o
  ·subst e
   rw [updF_same,if_neg (by omega),if_pos (by omega),Int.sub_mul]
   omega
  ·rw [updF_ne e]
   by_cases g:o<k
   ·rw [if_pos g,if_pos (by omega)];omega
   ·rw [if_neg g,if_neg (by omega)];omega
theorem total_nonneg (st:Nat→List Int):∀ k,0≤total st k
 | 0=>Int.le_refl _
 | k+1=>by
  have:=total_nonneg st k
  have h2:(0:Int)≤(st k).length*2 ^ k:=Int.mul_nonneg (by omega) (by have:=two_pos k;omega)
  simp only [total];omega
theorem total_zero {st:Nat→List Int}:∀ k,(∀ o,o<k→st o=[])→total st k=0
 | 0,_=>rfl
 | k+1,h=>by simp [total,total_zero k (fun o ho=>h o (by omega)),h k (by omega)]
theorem total_le {st:Nat→List Int} {o:Nat}:∀ k,o<k→((st o).length:Int)*2 ^ o≤total st k
 | 0,h=>by omega
 | k+1,h=>by
  simp only [total]
  have h2:(0:Int)≤(st k).length*2 ^ k:=Int.mul_nonneg (by omega) (by have:=two_pos k;omega)
  by_cases e:o=k
  ·subst e;have:=total_nonneg st o;omega
  ·have:=total_le (st:=st) (o:=o) k (by omega);omega
variable {st:Nat→List Int} {F F':Int→Prop} {n:Int} {o:Nat} {a:Int}
theorem BOK.congr (h:BOK st F n) (hF:∀ x,F x↔F' x):BOK st F' n:=⟨h.rng,h.nd,h.apart,fun x=>(hF x).symm.trans (h.cov x),h.sum⟩
theorem BOK.nonneg (h:BOK st F n):0≤n:=by rw [h.sum];exact total_nonneg _ _
theorem BOK.free (h:BOK st F n) {x:Int} (hx:F x):0≤x∧x<1048576:=by
 obtain ⟨o,a,h1,h2,h3,h4⟩:=(h.cov x).1 hx
 have:=h.rng o a h1 h2
 omega
theorem BOK.del (h:BOK st F n) (ho:o≤10) (ha:a ∈ st o):BOK (updF st o ((st o).erase a)) (fun x=>F x∧¬(a≤x∧x<a+2 ^ o)) (n-2 ^ o):=by
 have hsub:∀ o' a',a' ∈ updF st o ((st o).erase a) o'→a' ∈ st o':=by
  intro o' a' h1
  by_cases e:o'=o
  ·subst e;rw [updF_same] at h1;exact List.mem_of_mem_erase h1
  ·rw [updF_ne e] at h1;exact h1
 refine ⟨fun o' a' h1 h2=>h.rng o' a' h1 (hsub o' a' h2),fun o' h1=>?_,fun o1 a1 o2 a2 x h1 h2 h3 h4=>h.apart o1 a1 o2 a2 x h1 h2 (hsub _ _ h3) (hsub _ _ h4),fun x=>?_,?_⟩
 ·by_cases e:o'=o
  ·subst e;rw [updF_same];exact (h.nd o' h1).erase a
  ·rw [updF_ne e];exact h.nd o' h1
 ·rw [h.cov x]
  constructor
  ·rintro ⟨⟨o',a',h1,h2,h3,h4⟩,h5⟩
   refine ⟨o',a',h1,?_,h3,h4⟩
   by_cases e:o'=o
   ·subst e
    rw [updF_same]
    refine (List.mem_erase_of_ne fun e2=>?_).2 h2
    subst e2
    exact h5 ⟨h3,h4⟩
   ·rw [updF_ne e];exact h2
  ·rintro ⟨o',a',h1,h2,h3,h4⟩
   refine ⟨⟨o',a',h1,hsub _ _ h2,h3,h4⟩,fun ⟨h5,h6⟩=>?_⟩
   obtain ⟨e1,e2⟩:=h.apart o' a' o a x h1 ho (hsub _ _ h2) ha h3 h4 h5 h6
   subst e1 e2
   rw [updF_same] at h2
   exact (h.nd o' h1).not_mem_erase h2
 ·rw [total_upd,if_pos (by omega),h.sum,List.length_erase_of_mem ha]
  have:0<(st o).length:=List.length_pos_of_mem ha
  have e:(((st o).length-1:Nat):Int)-(st o).length = -1:=by omega
  rw [e];omega
theorem BOK.add (h:BOK st F n) (ho:o≤10) (h0:0≤a∧a+2 ^ o≤1048576) (hq:∃ q,a=2 ^ o*q) (hF:∀ x,a≤x→x<a+2 ^ o→¬F x) :
  a ∉ st o∧BOK (updF st o (st o++[a])) (fun x=>F x∨(a≤x∧x<a+2 ^ o)) (n+2 ^ o):=by
 have hp:=two_pos o
 have hno:a ∉ st o:=fun hm=>hF a (Int.le_refl _) (by omega) ((h.cov a).2 ⟨o,a,ho,hm,Int.le_refl _,by omega⟩)
 have hmem:∀ o' a',a' ∈ updF st o (st o++[a]) o'↔a' ∈ st o'∨(o'=o∧a'=a):=by
  intro o' a'
  by_cases e:o'=o
  ·subst e;rw [updF_same];simp
  ·rw [updF_ne e];simp [e]
 refine ⟨hno,fun o' a' h1 h2=>?_,fun o' h1=>?_,fun o1 a1 o2 a2 x h1 h2 h3 h4 h5 h6 h7 h8=>?_,fun x=>?_,?_⟩
 ·rcases (hmem o' a').1 h2 with h2 | ⟨rfl,rfl⟩
  ·exact h.rng o' a' h1 h2
  ·exact ⟨h0.1,h0.2,hq⟩
 ·by_cases e:o'=o
  ·subst e
   rw [updF_same]
   exact List.nodup_append.2 ⟨h.nd o' h1,by simp,fun x hx y hy=>by simp at hy;subst hy;exact fun e=>hno (e ▸ hx)⟩
  ·rw [updF_ne e];exact h.nd o' h1
 ·rcases (hmem o1 a1).1 h3 with g3 | ⟨e1,e2⟩
  ·rcases (hmem o2 a2).1 h4 with g4 | ⟨e1,e2⟩
   ·exact h.apart o1 a1 o2 a2 x h1 h2 g3 g4 h5 h6 h7 h8
   ·rw [e1,e2] at h8;rw [e2] at h7
    exact absurd ((h.cov x).2 ⟨o1,a1,h1,g3,h5,h6⟩) (hF x h7 h8)
  ·rw [e1,e2] at h6;rw [e2] at h5
   rcases (hmem o2 a2).1 h4 with g4 | ⟨e3,e4⟩
   ·exact absurd ((h.cov x).2 ⟨o2,a2,h2,g4,h7,h8⟩) (hF x h5 h6)
   ·exact ⟨e1.trans e3.symm,e2.trans e4.symm⟩
 ·rw [h.cov x]
  constructor
  ·rintro (⟨o',a',h1,h2,h3,h4⟩ | ⟨h3,h4⟩)
   ·exact ⟨o',a',h1,(hmem o' a').2 (.inl h2),h3,h4⟩
   ·exact ⟨o,a,ho,(hmem o a).2 (.inr ⟨rfl,rfl⟩),h3,h4⟩
  ·rintro ⟨o',a',h1,h2,h3,h4⟩
   rcases (hmem o' a').1 h2 with h2 | ⟨rfl,rfl⟩
   ·exact .inl ⟨o',a',h1,h2,h3,h4⟩
   ·exact .inr ⟨h3,h4⟩
 ·rw [total_upd,if_pos (by omega),h.sum]
  have e:(((st o++[a]).length:Nat):Int)-(st o).length=1:=by simp;omega
  rw [e];omega
theorem BOK.empty:BOK (fun _=>[]) (fun _=>False) 0:=⟨fun _ _ _ h=>by simp at h,fun _ _=>List.nodup_nil,fun _ _ _ _ _ _ _ h=>by simp at h,fun x=>⟨fun h=>h.elim,fun ⟨_,_,_,h,_⟩=>by simp at h⟩,by rw [total_zero 11 fun _ _=>rfl]⟩
def keysE (l:List Int):List (Int × Value):=l.map fun a=>(a,.bool true)
def givE (l:List Int):List (Int × Value):=l.map fun a=>(a,.int .i64 0)
theorem keysE_lookup (c:Value) (l:List Int) (x:Int):(l.map fun a=>(a,c)).lookup x=if x ∈ l then some c else none:=by
 induction l with
 | nil=>rfl
 | cons y l ih=>
  simp only [List.map_cons,List.lookup]
  by_cases e:x=y
  ·subst e;simp
  ·have:(x==y)=false:=by simpa using e
   rw [this,ih]
   simp [e]
end Go.Dn
/- The frames that are free: what each call makes of them. -/
namespace Go.Dn
variable {A:AH} {l R:List SP} {b g:Nat} {mb:Nat→Nat} {st:Nat→List Int} {gl:List Int} {n:Int} {F G:Int→Prop}
def bcells (mb:Nat→Nat) (g:Nat) (n:Int):List Value:=(List.range 11).map (fun i=>.map (some (mb i)))++[.map (some g),.int .i64 n]
def frees (mb:Nat→Nat) (st:Nat→List Int):List SP:=(List.range 11).map fun i=>MapI (mb i) .i64 (keysE (st i))
def budL (b:Nat) (mb:Nat→Nat) (g:Nat) (st:Nat→List Int) (gl:List Int) (n:Int):List SP:=At b (bcells mb g n)::MapI g .i64 (givE gl)::frees mb st
structure GOK (gl:List Int) (F G:Int→Prop):Prop where
 nodup:gl.Nodup
 mem:∀ x,G x↔x ∈ gl
 apart:∀ x,G x→¬F x∧0≤x∧x<1048576
def Bud (b:Nat) (F G:Int→Prop) (n:Int):SP:=fun B=>∃ mb g st gl,BOK st F n∧GOK gl F G∧n+gl.length≤1048576∧Own (budL b mb g st gl n) B
theorem bcells_map {k:Nat} (hk:k≤10):(bcells mb g n)[k]? = some (.map (some (mb k))):=by
 unfold bcells
 rw [List.getElem?_append_left (by simp;omega),List.getElem?_map,List.getElem?_range (by omega)]
 rfl
theorem frees_at {k:Nat} (hk:k≤10):(budL b mb g st gl n++R)[2+k]? = some (MapI (mb k) .i64 (keysE (st k))):=by
 rw [List.getElem?_append_left (by simp [budL,frees];omega)]
 rw [Nat.add_comm]
 simp only [budL,frees,List.getElem?_cons_succ,List.getElem?_map]
 rw [List.getElem?_range (by omega)]
 rfl
theorem frees_set {k:Nat} (hk:k≤10) (x:List Int):(budL b mb g st gl n++R).set (2+k) (MapI (mb k) .i64 (keysE x))=budL b mb g (updF st k x) gl n++R:=by
 rw [List.set_append_left _ _ (by simp [budL,frees];omega)]
 congr 1
 rw [Nat.add_comm]
 simp only [budL,List.set_cons_succ]
 congr 2
 apply List.ext_getElem?
 intro i
 rw [List.getElem?_set]
 by_cases e:k=i
 ·subst e
  rw [if_pos rfl,if_pos (by simp [frees];omega)]
  simp only [frees,List.getElem?_map]
  rw [List.getElem?_range (by omega)]
  simp [updF_same]
 ·rw [if_neg e]
  simp only [frees,List.getElem?_map]
  cases hi:(List.range 11)[i]? with
  | none=>rfl
  | some j=>
   have:j=i:=by
    have:=List.getElem?_eq_some_iff.1 hi
    obtain ⟨h1,h2⟩:=this
    simpa using h2.symm
   subst this
   simp [updF_ne (Ne.symm e)]
theorem ld_free {k:Nat} {K:Option Nat→Prop} (hk:k≤10) (h:Own (budL b mb g st gl n++R) A) (hK:K (some (mb k))):aM (Addr.add ⟨b,0,none⟩ (Int.toNat (k:Int)*1)) A K:=by
 rw [add_at]
 refine ld_M (i:=0) h rfl ?_ hK
 rw [show 0+Int.toNat (k:Int)*1=k by omega]
 exact bcells_map hk
theorem delM_keys (c:Value) (l:List Int) (x:Int):delM (l.map fun a=>(a,c)) x=(l.erase x).map fun a=>(a,c):=by
 induction l with
 | nil=>rfl
 | cons y l ih=>
  simp only [List.map_cons,delM]
  by_cases e:y=x
  ·subst e;simp
  ·rw [if_neg e,List.erase_cons_tail (by simpa using e),ih,List.map_cons]
theorem putM_keys (c:Value) (l:List Int) (x:Int) (hx:x ∉ l):putM (l.map fun a=>(a,c)) x c=(l++[x]).map fun a=>(a,c):=by
 induction l with
 | nil=>rfl
 | cons y l ih=>
  simp only [List.mem_cons,not_or] at hx
  simp only [List.map_cons,putM]
  rw [if_neg (Ne.symm hx.1),ih hx.2]
  rfl
theorem lk_free {k:Nat} {x:Int} {K:Option Value→Prop} (hk:k≤10) (h:Own (budL b mb g st gl n++R) A) (hK:K (if x ∈ st k then some (.bool true) else none)):aLk A (some (mb k)) .i64 x K:=by
 refine lk_M (i:=2+k) h (frees_at hk) ?_
 unfold keysE
 rw [keysE_lookup];exact hK
theorem dl_free {k:Nat} {x:Int} {K:AP} (hk:k≤10) (h:Own (budL b mb g st gl n++R) A) (hK:∀ A',Own (budL b mb g (updF st k ((st k).erase x)) gl n++R) A'→K A'):aMDl A (some (mb k)) .i64 x K:=by
 refine dl_M (i:=2+k) h (frees_at hk) fun A' h'=>hK A' ?_
 have:delM (keysE (st k)) x=keysE ((st k).erase x):=delM_keys _ _ _
 rw [this,frees_set hk] at h'
 exact h'
theorem st_free {k:Nat} {x:Int} {K:AP} (hk:k≤10) (hx:x ∉ st k) (h:Own (budL b mb g st gl n++R) A) (hK:∀ A',Own (budL b mb g (updF st k (st k++[x])) gl n++R) A'→K A'):aMSt A (some (mb k)) .i64 x (.bool true) K:=by
 refine st_M (i:=2+k) h (frees_at hk) fun A' h'=>hK A' ?_
 have:putM (keysE (st k)) x (.bool true)=keysE (st k++[x]):=putM_keys _ _ _ hx
 rw [this,frees_set hk] at h'
 exact h'
theorem add_raw {k:Nat} {a c:Int} {F':Int→Prop} {Q:AH→Prop} (h:Own (budL b mb g st gl n++R) A) (hk:k≤10) (hb:BOK st F' c) (h0:0≤a∧a+2 ^ k≤1048576) (hq:∃ q,a=2 ^ k*q)
  (hF:∀ x,a≤x→x<a+2 ^ k→¬F' x)
  (hQ:∀ st' A',BOK st' (fun x=>F' x∨(a≤x∧x<a+2 ^ k)) (c+2 ^ k)→Own (budL b mb g st' gl n++R) A'→Q A'):qaq_A (some ⟨b,0,none⟩) a k Q A:=by
 unfold qaq_A
 refine ⟨fun x y m h'=>∃ (k':Nat) (st':Nat→List Int) (F2:Int→Prop) (c':Int),y=k'∧k'≤10∧m=10-k'∧BOK st' F2 c'∧0≤x∧x+2 ^ k'≤1048576∧(∃ q,x=2 ^ k'*q)∧
  (∀ z,x≤z→z<x+2 ^ k'→¬F2 z)∧(∀ z,(F2 z∨(x≤z∧z<x+2 ^ k'))↔(F' z∨(a≤z∧z<a+2 ^ k)))∧c'+2 ^ k'=c+2 ^ k∧Own (budL b mb g st' gl n++R) h',
  ⟨_,k,st,F',c,rfl,hk,rfl,hb,h0.1,h0.2,hq,hF,fun _=>Iff.rfl,rfl,h⟩,?_⟩
 intro x y m h' ⟨k',st',F2,c',e1,e2,e3,e4,e5,e6,⟨q,e7⟩,e8,e9,e10,e11⟩
 subst e1 e3
 have hp:=pow_small (k:=k') (by omega)
 have fin:∀ A',(x ∉ st' k'→Own (budL b mb g (updF st' k' (st' k'++[x])) gl n++R) A')→Q A':=by
  intro A' hA
  obtain ⟨g1,g2⟩:=e4.add e2 ⟨e5,e6⟩ ⟨q,e7⟩ e8
  refine hQ _ A' ?_ (hA g1)
  rw [←e10]
  exact g2.congr e9
 have hno:x ∉ st' k':=(e4.add e2 ⟨e5,e6⟩ ⟨q,e7⟩ e8).1
 have last:onSome (some (⟨b,0,none⟩:Addr)) fun a14=>inB (k':Int) 11 (aM (Addr.add a14 (Int.toNat (k':Int)*1)) h' fun mp15=>aMSt h' mp15 .i64 x (.bool true) fun h16=>Q h16):=
  inB_in (by omega) (by omega) (ld_free e2 e11 (st_free e2 hno e11 fun A' hA=>fin A' fun _=>hA))
 refine bsel_in (fun hc=>?_) fun _=>last
 have hc:k'<10:=by simp at hc;omega
 refine inB_in (by omega) (by omega) (ld_free e2 e11 ?_)
 refine bsel_f (by simp) ?_
 rw [shl1 (by omega) 1 (by omega) (by omega),Int.one_mul]
 have q0:0≤q:=by
  rcases Int.lt_or_le q 0 with g | g
  ·have:=Int.mul_neg_of_pos_of_neg hp.2 g;omega
  ·exact g
 have hx:bits .xor .i64 x (2 ^ k')=if q % 2=0 then x+2 ^ k' else x-2 ^ k':=by
  rw [e7,xor_at (by omega) q0 (by omega)]
 have hn:bits .andNot .i64 x (2 ^ k')=if q % 2=0 then x else x-2 ^ k':=by
  rw [e7,andNot_at (by omega) q0 (by omega)]
 refine lk_free e2 e11 ?_
 by_cases hm:bits .xor .i64 x (2 ^ k') ∈ st' k'
 ·rw [if_pos hm]
  refine ⟨true,rfl,bsel_t rfl (inB_in (by omega) (by omega) (ld_free e2 e11 (bsel_f (by simp) (dl_free e2 e11 fun A' hA=>bsel_f (by simp) ?_))))⟩
  have hd:=e4.del e2 hm
  obtain ⟨r1,r2,_⟩:=e4.rng k' _ e2 hm
  rw [w64 (by omega) (by omega)]
  have hs:(2:Int) ^ (k'+1)=2 ^ k'*2:=Int.pow_succ _ _
  have hsub:∀ z,bits .xor .i64 x (2 ^ k')≤z→z<bits .xor .i64 x (2 ^ k')+2 ^ k'→F2 z:=fun z z1 z2=>(e4.cov z).2 ⟨k',_,e2,hm,z1,z2⟩
  refine ⟨10-(k'+1),by omega,k'+1,_,_,_,by omega,by omega,rfl,hd,?_,?_,⟨q / 2,?_⟩,?_,?_,?_,hA⟩
  ·rw [hn];split
   ·omega
   ·rename_i g;rw [hx,if_neg g] at r1;omega
  ·rw [hn,hs];split
   ·rename_i g;rw [hx,if_pos g] at r2;omega
   ·omega
  ·rw [hn,hs,Int.mul_assoc]
   split
   ·rename_i g;rw [show 2*(q / 2)=q by omega,e7]
   ·rename_i g;rw [show 2*(q / 2)=q-1 by omega,Int.mul_sub,Int.mul_one,e7]
  ·intro z z1 z2 ⟨z3,z4⟩
   rw [hn] at z1 z2
   rw [hx] at z4
   rw [hs] at z2
   by_cases g:q % 2=0
   ·rw [if_pos g] at z1 z2 z4
    exact e8 z z1 (by omega) z3
   ·rw [if_neg g] at z1 z2 z4
    exact e8 z (by omega) (by omega) z3
  ·intro z
   rw [←e9 z]
   rw [hn,hx,hs]
   rw [hx] at hsub
   have hs2:=hsub z
   by_cases g:q % 2=0
   ·rw [if_pos g] at hs2 ⊢;rw [if_pos g]
    constructor
    ·rintro (⟨z1,_⟩ | ⟨z1,z2⟩)
     ·exact .inl z1
     ·by_cases w:z<x+2 ^ k'
      ·exact .inr ⟨z1,w⟩
      ·exact .inl (hs2 (by omega) (by omega))
    ·rintro (z1 | ⟨z1,z2⟩)
     ·by_cases w:x+2 ^ k'≤z∧z<x+2 ^ k'+2 ^ k'
      ·exact .inr ⟨by omega,by omega⟩
      ·exact .inl ⟨z1,w⟩
     ·exact .inr ⟨by omega,by omega⟩
   ·rw [if_neg g] at hs2 ⊢;rw [if_neg g]
    constructor
    ·rintro (⟨z1,_⟩ | ⟨z1,z2⟩)
     ·exact .inl z1
     ·by_cases w:x≤z
      ·exact .inr ⟨w,by omega⟩
      ·exact .inl (hs2 (by omega) (by omega))
    ·rintro (z1 | ⟨z1,z2⟩)
     ·by_cases w:x-2 ^ k'≤z∧z<x-2 ^ k'+2 ^ k'
      ·exact .inr ⟨by omega,by omega⟩
      ·exact .inl ⟨z1,w⟩
     ·exact .inr ⟨by omega,by omega⟩
  ·rw [hs];omega
 ·rw [if_neg hm]
  exact ⟨false,rfl,bsel_f rfl last⟩
theorem Bud.openH (h:Own (Bud b F G n::R) A):∃ mb g st gl,BOK st F n∧GOK gl F G∧n+gl.length≤1048576∧Own (budL b mb g st gl n++R) A:=by
 obtain ⟨mb,h⟩:=Own.ex h
 obtain ⟨g,h⟩:=Own.ex h
 obtain ⟨st,h⟩:=Own.ex h
 obtain ⟨gl,h⟩:=Own.ex h
 obtain ⟨h1,h⟩:=Own.pure h
 obtain ⟨h2,h⟩:=Own.pure h
 obtain ⟨h3,h⟩:=Own.pure h
 exact ⟨mb,g,st,gl,h1,h2,h3,Own.flat h⟩
theorem Bud.closeH (h1:BOK st F n) (h2:GOK gl F G) (h3:n+gl.length≤1048576) (h:Own (budL b mb g st gl n++R) A):Own (Bud b F G n::R) A:=
 h.app.imp fun _ hB=>⟨mb,g,st,gl,h1,h2,h3,hB⟩
theorem bcells_g:(bcells mb g n)[11]? = some (.map (some g)):=rfl
theorem bcells_n:(bcells mb g n)[12]? = some (.int .i64 n):=rfl
theorem ld_giv {K:Option Nat→Prop} (h:Own (budL b mb g st gl n++R) A) (hK:K (some g)):aM (Addr.add ⟨b,0,none⟩ 11) A K:=by
 rw [add_at];exact ld_M (i:=0) h rfl bcells_g hK
theorem ld_cnt {K:Int→Prop} (h:Own (budL b mb g st gl n++R) A) (hK:K n):aI .i64 (Addr.add ⟨b,0,none⟩ 12) A K:=by
 rw [add_at];exact ld_I (i:=0) h rfl bcells_n hK
theorem st_cnt {x:Int} {K:AP} (h:Own (budL b mb g st gl n++R) A) (hK:∀ A',Own (budL b mb g st gl x++R) A'→K A'):aC (Addr.add ⟨b,0,none⟩ 12) (.int .i64 x) A K:=by
 rw [add_at]
 exact st_C (i:=0) h rfl rfl rfl fun A' h'=>hK A' h'
theorem Give_head {f:Int} {Q:Int→AH→Prop} (h:Own (Bud b F G n::R) A) (hf:G f) (hk:∀ A',Own (Bud b (fun x=>F x∨x=f) (fun x=>G x∧x≠f) (n+1)::R) A'→Q 0 A'):qbe_A (some ⟨b,0,none⟩) f Q A:=by
 obtain ⟨mb,g,st,gl,h1,h2,h3,h⟩:=Bud.openH h
 have hm:=(h2.mem f).1 hf
 obtain ⟨f1,f2,f3⟩:=h2.apart f hf
 have hn:=h1.nonneg
 have hl:0<gl.length:=List.length_pos_of_mem hm
 unfold qbe_A qbe_G
 refine ld_giv h ?_
 refine lk_M (i:=1) h rfl ?_
 unfold givE
 rw [keysE_lookup,if_pos hm]
 refine ⟨0,rfl,bsel_f rfl ?_⟩
 refine ld_giv h (dl_M (i:=1) h rfl fun A1 hA1=>?_)
 have e1:delM (givE gl) f=givE (gl.erase f):=delM_keys _ _ _
 rw [e1] at hA1
 have hA1:Own (budL b mb g st (gl.erase f) n++R) A1:=hA1
 refine ld_cnt hA1 (bsel_f rfl (st_cnt hA1 fun A2 hA2=>?_))
 have e2:IntKind.wrap .i64 (n+IntKind.wrap .i64 ((1:Int)*2 ^ (min (Int.toNat 0) 64)))=n+1:=by
  rw [show IntKind.wrap .i64 ((1:Int)*2 ^ (min (Int.toNat 0) 64))=1 from rfl,w64]<;>omega
 rw [e2] at hA2
 show qaq_A _ f ((0:Nat):Int) _ A2
 refine add_raw hA2 (by omega) h1 ⟨f2,by simp;omega⟩ ⟨f,by simp⟩ (fun x z1 z2=>?_) fun st' A3 hB hA3=>?_
 ·have:x=f:=by simp at z2;omega
  rw [this];exact f1
 ·have e3:(gl.erase f).length=gl.length-1:=List.length_erase_of_mem hm
  refine hk A3 (Bud.closeH (gl:=gl.erase f) (n:=n+1) (hB.congr fun x=>?_) ⟨h2.nodup.erase f,fun x=>?_,fun x hx=>?_⟩ (by rw [e3];omega) hA3)
  ·constructor
   ·rintro (z | ⟨z1,z2⟩)
    ·exact .inl z
    ·right;simp at z2;omega
   ·rintro (z | z)
    ·exact .inl z
    ·right;simp;omega
  ·rw [h2.nodup.mem_erase_iff,h2.mem x];exact ⟨fun h=>⟨h.2,h.1⟩,fun h=>⟨h.2,h.1⟩⟩
  ·obtain ⟨g1,g2⟩:=h2.apart x hx.1
   exact ⟨fun h=>h.elim g1 hx.2,g2⟩
theorem Free_head {Q:Int→AH→Prop} (h:Own (Bud b F G n::R) A) (hk:Q n A):qas_A (some ⟨b,0,none⟩) Q A:=by
 obtain ⟨mb,g,st,gl,h1,h2,h3,h⟩:=Bud.openH h
 exact ld_cnt h hk
theorem Min_spec {k:Nat} {s:Sl} {ss:List Int} {Q:Int→AH→Prop} (h:Own l A) (e:l[k]? = some (SlAt s 1 (ss.map (.int .i64)))) (hne:ss≠[]) (hlen:ss.length<9223372036854775807) (hk:∀ x ∈ ss,Q x A):qba_A s Q A:=by
 have hl:s.len=ss.length:=by have:=sl_len h e;simpa using this
 have hp:0<ss.length:=List.length_pos_iff.2 hne
 have cell:∀ j x,ss[j]? = some x→∃ b o,s.a=some ⟨b,o,none⟩∧cellA A ⟨b,o+j,none⟩=some (.int .i64 x):=fun j x hx=>sl_cell h e (j:=j) (v:=.int .i64 x) (by simp [hx])
 unfold qba_A
 refine ⟨fun h'=>h'=A,?_,bsel_f (by simp [hl];omega) rfl⟩
 intro h' e1
 subst e1
 obtain ⟨x0,hx0⟩:∃ x,ss[0]? = some x:=⟨ss[0],by simp⟩
 obtain ⟨b0,o0,c1,c2⟩:=cell 0 x0 hx0
 rw [c1]
 refine inB_in (by omega) (by omega) ⟨x0,by simpa using c2,?_⟩
 refine ⟨fun x y m h2=>∃ j:Nat,y=j∧j≤ss.length∧m=ss.length-j∧x ∈ ss∧h2=h',⟨_,1,rfl,by omega,rfl,List.mem_of_getElem? hx0,rfl⟩,?_⟩
 intro x y m h2 ⟨j,q1,q2,q3,q4,q5⟩
 subst q1 q3 q5
 refine bsel_in (fun c=>?_) fun c=>hk x q4
 have c:j<ss.length:=by simp [hl] at c;omega
 obtain ⟨y,hy⟩:∃ y,ss[j]? = some y:=⟨ss[j],by simp [c]⟩
 obtain ⟨b1,o1,d1,d2⟩:=cell j y hy
 rw [c1] at d1
 cases d1
 refine inB_in (by omega) (by omega) ⟨y,by rw [add_at];simpa using d2,ss.length-(j+1),by omega,j+1,by rw [w64]<;>omega,by omega,rfl,?_,rfl⟩
 split
 ·exact List.mem_of_getElem? hy
 ·exact q4
theorem wf64 {x:Int} (h0 : -9223372036854775808≤x) (h1:x<9223372036854775808):(Lit.int .i64 x).wf=true:=by
 have e1:IntKind.min .i64 = -9223372036854775808:=rfl
 have e2:IntKind.max .i64=9223372036854775807:=rfl
 simp [Lit.wf,e1,e2]
 omega
theorem pow_mono {j k:Nat} (h:k≤j):(2:Int) ^ k≤2 ^ j:=by
 have:(2:Nat) ^ k≤2 ^ j:=Nat.pow_le_pow_right (by omega) h
 have h2:((2 ^ k:Nat):Int)≤((2 ^ j:Nat):Int):=Int.ofNat_le.2 this
 simpa using h2
set_option maxHeartbeats 1000000 in
theorem Take_head {Q:Int→Int→AH→Prop} (h:Own (Bud b F G n::R) A) (h0:n=0→Q 0 7 A)
  (hk:n≠0→∀ f A',F f→Own (Bud b (fun x=>F x∧x≠f) (fun x=>G x∨x=f) (n-1)::R) A'→Q f 0 A'):qbb_A (some ⟨b,0,none⟩) 0 Q A:=by
 obtain ⟨mb,g,st,gl,h1,h2,h3,h⟩:=Bud.openH h
 have hn:=h1.nonneg
 unfold qbb_A qbb_G
 refine ⟨fun h'=>h'=A,?_,bsel_f rfl (bsel_f rfl rfl)⟩
 intro A0 e0
 subst e0
 refine ⟨fun x h'=>h'=A0∧∃ j:Nat,x=j∧j≤11∧(∀ o,o<j→st o=[])∧(j≤10→st j≠[]),?_,fun x m h'=>h'=A0∧∃ j:Nat,x=j∧j≤11∧m=11-j∧(∀ o,o<j→st o=[]),⟨_,rfl,0,rfl,by omega,rfl,fun o ho=>by omega⟩,?_⟩
 rotate_left
 ·intro x m h' ⟨e1,j,e2,e3,e4,e5⟩
  subst e1 e2 e4
  refine bsel_in (fun c=>?_) fun c=>⟨rfl,j,rfl,e3,e5,fun g=>absurd c (by simp;omega)⟩
  have c:j≤10:=by simp at c;omega
  refine inB_in (by omega) (by omega) (ld_free c h (ln_M (i:=2+j) h (frees_at c) ?_))
  refine bsel_in (fun d=>?_) fun d=>⟨rfl,j,rfl,e3,e5,fun _ e=>by simp [keysE,e] at d⟩
  have d:st j=[]:=by
   apply List.length_eq_zero_iff.1
   simp [keysE] at d
   simp [d]
  refine ⟨11-(j+1),by omega,rfl,j+1,by rw [w64]<;>omega,by omega,rfl,fun o ho=>?_⟩
  by_cases q:o=j
  ·rw [q];exact d
  ·exact e5 o (by omega)
 intro x h' ⟨e1,j,e2,e3,e5,e6⟩
 subst e1 e2
 refine bsel_in (fun c=>?_) fun c=>?_
 ·have c:j=11:=by simp at c;omega
  subst c
  exact h0 (by rw [h1.sum];exact total_zero 11 e5)
 have c:j≤10:=by simp at c;omega
 have hne:=e6 c
 have hpj:=pow_small (k:=j) (by omega)
 have hlen:=total_le (st:=st) (o:=j) 11 (by omega)
 rw [←h1.sum] at hlen
 have hlp:0<(st j).length:=List.length_pos_iff.2 hne
 have hn1:n≠0:=by
  have:(0:Int)<(st j).length*2 ^ j:=Int.mul_pos (by omega) hpj.2
  omega
 have hl20:((st j).length:Int)≤1048576:=by
  have:((st j).length:Int)*1≤(st j).length*2 ^ j:=Int.mul_le_mul_of_nonneg_left (by omega) (by omega)
  omega
 refine inB_in (by omega) (by omega) (ld_free c h ?_)
 unfold qay_A
 show newA h' (.cells [Value.map (some (mb j))].toArray _) _
 refine new_C h fun kb A1 hA1=>?_
 show clA 3 (some ⟨kb,0,none⟩) _ A1
 refine cl_M (j:=0) (i:=2+j+1) hA1 rfl (frees_at c) (by simp [keysE];omega) (fun p hp=>?_) (fun e=>?_) fun ss s A2 hs hsn hsl hA2=>?_
 ·obtain ⟨a,ha,rfl⟩:=List.mem_map.1 hp
  have:=h1.rng j a c ha
  exact wf64 (by omega) (by omega)
 ·exact absurd (by simpa [keysE] using e) hne
 have hss:ss.Perm (st j):=by
  have:(keysE (st j)).map (·.1)=st j:=by unfold keysE;rw [List.map_map];exact List.map_id' _
  rw [this] at hs;exact hs
 have hssl:ss.length=(st j).length:=hss.length_eq
 refine Min_spec (k:=0) hA2 rfl hsn (by omega) fun a ha=>?_
 have ha:=hss.mem_iff.1 ha
 have hA3:Own (budL b mb g st gl n++R) A2:=hA2.tail.tail
 refine inB_in (by omega) (by omega) (ld_free c hA3 (dl_free c hA3 fun A4 hA4=>?_))
 obtain ⟨r1,r2,q,r3⟩:=h1.rng j a c ha
 have hFa:∀ x,a≤x→x<a+2 ^ j→F x:=fun x z1 z2=>(h1.cov x).2 ⟨j,a,c,ha,z1,z2⟩
 refine ⟨fun y m h'=>∃ (k:Nat) (st':Nat→List Int),y=k∧k≤j∧k=m∧(∀ o,o<k→st' o=[])∧BOK st' (fun x=>F x∧¬(a≤x∧x<a+2 ^ k)) (n-2 ^ k)∧Own (budL b mb g st' gl n++R) h',
  ⟨_,j,_,rfl,Nat.le_refl _,rfl,fun o ho=>by rw [updF_ne (by omega)];exact e5 o ho,h1.del c ha,hA4⟩,?_⟩
 intro y m A5 ⟨k,st',i1,i2,i3,i4,i5,i6⟩
 subst i1 i3
 refine bsel_in (fun d=>?_) fun d=>?_
 ·have d:0<k:=by simp at d;omega
  obtain ⟨k,rfl⟩:∃ k',k=k'+1:=⟨k-1,by omega⟩
  have ek:IntKind.wrap .i64 (((k+1:Nat):Int)-1)=(k:Int):=by rw [w64]<;>omega
  rw [ek]
  have hk2:=pow_mono (j:=j) (k:=k+1) i2
  have hs:(2:Int) ^ (k+1)=2 ^ k*2:=Int.pow_succ _ _
  have hpk:=two_pos k
  refine inB_in (by omega) (by omega) (ld_free (by omega) i6 (bsel_f (by simp) ?_))
  rw [shl1 (by omega) 1 (by omega) (by omega),Int.one_mul,w64 (by omega) (by omega)]
  have hnil:st' k=[]:=i4 k (by omega)
  refine st_free (by omega) (by rw [hnil];simp) i6 fun A6 hA6=>?_
  obtain ⟨_,hb⟩:=i5.add (o:=k) (a:=a+2 ^ k) (by omega) ⟨by omega,by omega⟩ ⟨2 ^ (j-k)*q+1,by
   rw [Int.mul_add,Int.mul_one,← Int.mul_assoc,← Int.pow_add,show k+(j-k)=j by omega,r3]⟩ (fun x z1 z2 ⟨_,z3⟩=>z3 ⟨by omega,by omega⟩)
  refine ⟨k,by omega,k,_,rfl,by omega,rfl,fun o ho=>by rw [updF_ne (by omega)];exact i4 o (by omega),?_,hA6⟩
  rw [show n-2 ^ k=n-2 ^ (k+1)+2 ^ k by omega]
  refine hb.congr fun x=>?_
  rw [hs]
  constructor
  ·rintro (⟨z1,z2⟩ | ⟨z1,z2⟩)
   ·exact ⟨z1,fun z3=>z2 ⟨z3.1,by omega⟩⟩
   ·exact ⟨hFa x (by omega) (by omega),fun z3=>by omega⟩
  ·rintro ⟨z1,z2⟩
   by_cases w:a≤x∧x<a+2 ^ k*2
   ·exact .inr ⟨by omega,by omega⟩
   ·exact .inl ⟨z1,w⟩
 ·have d:k=0:=by simp at d;omega
  subst d
  have hFa0:F a:=hFa a (Int.le_refl _) (by omega)
  have hga:a ∉ gl:=fun hm=>(h2.apart a ((h2.mem a).2 hm)).1 hFa0
  have hr:=h1.free hFa0
  refine ld_giv i6 (st_M (i:=1) i6 rfl fun A6 hA6=>?_)
  have e1:putM (givE gl) a (.int .i64 0)=givE (gl++[a]):=putM_keys _ _ _ hga
  rw [e1] at hA6
  have hA6:Own (budL b mb g st' (gl++[a]) n++R) A6:=hA6
  refine ld_cnt hA6 (bsel_f rfl (st_cnt hA6 fun A7 hA7=>?_))
  have e2:IntKind.wrap .i64 (n-IntKind.wrap .i64 ((1:Int)*2 ^ (min (Int.toNat 0) 64)))=n-1:=by
   rw [show IntKind.wrap .i64 ((1:Int)*2 ^ (min (Int.toNat 0) 64))=1 from rfl,w64]<;>omega
  rw [e2] at hA7
  have hb:BOK st' (fun x=>F x∧x≠a) (n-1):=by
   have:=i5
   simp only [Int.pow_zero] at this
   refine this.congr fun x=>?_
   constructor
   ·rintro ⟨z1,z2⟩;exact ⟨z1,fun z3=>z2 (by omega)⟩
   ·rintro ⟨z1,z2⟩;exact ⟨z1,fun z3=>z2 (by omega)⟩
  refine hk hn1 a A7 hFa0 (Bud.closeH hb ⟨?_,fun x=>?_,fun x hx=>?_⟩ (by simp;omega) hA7)
  ·exact List.nodup_append.2 ⟨h2.nodup,by simp,fun x hx y hy=>by simp at hy;subst hy;exact fun e=>hga (e ▸ hx)⟩
  ·rw [List.mem_append,h2.mem x];simp
  ·rcases hx with hx | hx
   ·obtain ⟨g1,g2⟩:=h2.apart x hx
    exact ⟨fun h=>g1 h.1,g2⟩
   ·rw [hx];exact ⟨fun h=>h.2 rfl,hr⟩
end Go.Dn
/- The frames that are free, made of ranges. -/
namespace Go.Dn
variable {A:AH} {l R:List SP} {b g:Nat} {mb:Nat→Nat} {st:Nat→List Int} {gl:List Int} {n:Int} {F G:Int→Prop}
theorem and_at {k:Nat} {q:Int} (hk:k≤20) (h0:0≤q) (h1:2 ^ k*q≤2097152):(bits .and .i64 (2 ^ k*q) (2 ^ k)==(0:Int))=decide (q % 2=0):=by
 obtain ⟨q,rfl⟩:=Int.eq_ofNat_of_zero_le h0
 have hp:=pow_small hk
 have e1:((2:Int) ^ k*(q:Int))=((2 ^ k*q:Nat):Int):=by simp
 have e2:((2:Int) ^ k)=((2 ^ k:Nat):Int):=by simp
 rw [e1] at h1
 rw [e1,e2]
 have h2:bits .and .i64 ((2 ^ k*q:Nat):Int) ((2 ^ k:Nat):Int)=IntKind.wrap .i64 ((BitVec.ofInt 64 ((2 ^ k*q:Nat):Int)&&& BitVec.ofInt 64 ((2 ^ k:Nat):Int)).toNat:Int):=rfl
 rw [h2,BitVec.toNat_and,BitVec.ofInt_natCast,BitVec.ofInt_natCast,BitVec.toNat_ofNat,BitVec.toNat_ofNat,Nat.mod_eq_of_lt (by omega),Nat.mod_eq_of_lt (by omega),nand]
 have e3:((q:Int) % 2=0)↔(q % 2=0):=by omega
 by_cases g:q % 2=0
 ·rw [if_pos g,decide_eq_true (e3.2 g)];rfl
 ·rw [if_neg g,decide_eq_false (fun h=>g (e3.1 h)),w64 (by omega) (by omega)]
  have:0<2 ^ k:=Nat.two_pow_pos k
  simp;omega
def rangeCells (rs:List (Int × Int)):List Value:=rs.flatMap fun p=>[.int .i64 p.1,.int .i64 p.2]
theorem rangeCells_at:∀ {hs:List (Int × Int)} {j:Nat} {p:Int × Int},hs[j]? = some p→(rangeCells hs)[j*2]? = some (.int .i64 p.1)∧(rangeCells hs)[j*2+1]? = some (.int .i64 p.2)
 | [],_,_,e=>by simp at e
 | q::hs,0,p,e=>by simp at e;subst e;exact ⟨rfl,rfl⟩
 | q::hs,j+1,p,e=>by
  have:=rangeCells_at (hs:=hs) (j:=j) (p:=p) (by simpa using e)
  rw [show (j+1)*2=j*2+1+1 by omega]
  exact this
theorem rangeCells_len (hs:List (Int × Int)):(rangeCells hs).length=hs.length*2:=by
 induction hs with
 | nil=>rfl
 | cons p hs ih=>simp only [rangeCells,List.flatMap_cons,List.length_append] at ih ⊢;rw [ih];simp;omega
def okR:Int→List (Int × Int)→Bool
 | _,[]=>true
 | last,r::rs=>!(decide (r.1<last))&&!(decide (r.2≤r.1))&&!(decide (r.2 > 1048576))&&okR r.2 rs
def inR (rs:List (Int × Int)) (x:Int):Prop:=∃ r ∈ rs,r.1≤x∧x<r.2
def sizeR:List (Int × Int)→Int
 | []=>0
 | r::rs=>r.2-r.1+sizeR rs
theorem sizeR_le:∀ (rs:List (Int × Int)) (last:Int),last≤1048576→okR last rs=true→0≤sizeR rs∧last+sizeR rs≤1048576
 | [],last,h,_=>⟨Int.le_refl _,by simp [sizeR];omega⟩
 | r::rs,last,h,hk=>by
  simp only [okR,Bool.and_eq_true,Bool.not_eq_true',decide_eq_false_iff_not] at hk
  obtain ⟨⟨⟨h1,h2⟩,h3⟩,h4⟩:=hk
  have:=sizeR_le rs r.2 (by omega) h4
  simp only [sizeR]
  omega
theorem okR_lo:∀ (rs:List (Int × Int)) (last:Int),okR last rs=true→∀ r ∈ rs,last≤r.1∧r.1<r.2∧r.2≤1048576
 | [],_,_,r,h=>by simp at h
 | p::rs,last,hk,r,hr=>by
  simp only [okR,Bool.and_eq_true,Bool.not_eq_true',decide_eq_false_iff_not] at hk
  obtain ⟨⟨⟨h1,h2⟩,h3⟩,h4⟩:=hk
  rcases List.mem_cons.1 hr with rfl | hr
  ·omega
  ·have:=okR_lo rs p.2 h4 r hr;omega
theorem okR_app:∀ (rs:List (Int × Int)) (last:Int) (j:Nat) (r:Int × Int),okR last rs=true→rs[j]? = some r→∀ p ∈ rs.take j,p.2≤r.1
 | [],_,_,_,_,h=>by simp at h
 | p::rs,last,0,r,_,_=>by simp
 | p::rs,last,j+1,r,hk,hr=>by
  simp only [okR,Bool.and_eq_true] at hk
  intro p' hp'
  simp only [List.take_succ_cons,List.mem_cons] at hp'
  have hr:rs[j]? = some r:=by simpa using hr
  rcases hp' with rfl | hp'
  ·exact (okR_lo rs _ hk.2 r (List.mem_of_getElem? hr)).1
  ·exact okR_app rs p.2 j r hk.2 hr p' hp'
theorem sizeR_take:∀ (rs:List (Int × Int)) (j:Nat) (r:Int × Int),rs[j]? = some r→sizeR (rs.take (j+1))=sizeR (rs.take j)+(r.2-r.1)
 | [],_,_,h=>by simp at h
 | p::rs,0,r,h=>by simp at h;subst h;simp [sizeR]
 | p::rs,j+1,r,h=>by
  have:=sizeR_take rs j r (by simpa using h)
  simp only [List.take_succ_cons,sizeR,this];omega
theorem sizeR_mono:∀ (rs:List (Int × Int)) (j:Nat),(∀ r ∈ rs,r.1<r.2)→0≤sizeR (rs.take j)∧sizeR (rs.take j)≤sizeR rs
 | [],_,_=>by simp [sizeR]
 | p::rs,0,h=>by
  have h1:=sizeR_mono rs rs.length (fun r hr=>h r (List.mem_cons_of_mem _ hr))
  have h2:=h p List.mem_cons_self
  rw [List.take_length] at h1
  simp only [List.take_zero,sizeR];omega
 | p::rs,j+1,h=>by
  have h1:=sizeR_mono rs j (fun r hr=>h r (List.mem_cons_of_mem _ hr))
  have h2:=h p List.mem_cons_self
  simp only [List.take_succ_cons,sizeR];omega
def cellsJ (mb:Nat→Nat) (j g:Nat):List Value:=(List.range 11).map (fun i=>.map (if i<j then some (mb i) else none))++[.map (some g),.int .i64 0]
theorem cellsJ_11:cellsJ mb 11 g=bcells mb g 0:=by
 rfl
theorem cellsJ_set {j v:Nat} (hj:j<11):(cellsJ mb j g).set j (.map (some v))=cellsJ (updF mb j v) (j+1) g:=by
 unfold cellsJ
 rw [List.set_append_left _ _ (by simp;omega)]
 congr 1
 apply List.ext_getElem?
 intro i
 rw [List.getElem?_set]
 by_cases e:j=i
 ·subst e
  rw [if_pos rfl,if_pos (by simp;omega),List.getElem?_map,List.getElem?_range hj]
  simp [updF_same]
 ·rw [if_neg e,List.getElem?_map,List.getElem?_map]
  cases hi:(List.range 11)[i]? with
  | none=>rfl
  | some q=>
   obtain ⟨h1,h2⟩:=List.getElem?_eq_some_iff.1 hi
   have:q=i:=by simpa using h2.symm
   subst this
   simp only [Option.map_some]
   rw [updF_ne (Ne.symm e)]
   by_cases g:q<j
   ·rw [if_pos g,if_pos (by omega)]
   ·rw [if_neg g,if_neg (by omega)]
def newL (mb:Nat→Nat) (j:Nat):List SP:=(List.range j).map fun i=>MapI (mb i) .i64 []
theorem newL_succ {j v:Nat}:newL (updF mb j v) (j+1)=newL mb j++[MapI v .i64 []]:=by
 unfold newL
 rw [List.range_succ,List.map_append]
 congr 1
 ·apply List.map_congr_left
  intro i hi
  have:i<j:=by simpa using hi
  rw [updF_ne (by omega)]
 ·simp [updF_same]
theorem ld_range {P:SP} {k j:Nat} {s:Sl} {rs:List (Int × Int)} {r:Int × Int} {K:Int→Int→Prop} (h:Own l A) (e:l[k]? = some P) (hr:Reads P s 2 (rangeCells rs)) (hj:rs[j]? = some r) (hK:K r.1 r.2) :
  onSome s.a fun a=>inB (j:Int) s.len (aI .i64 (Addr.add a (Int.toNat (j:Int)*2)) A fun n8=>aI .i64 (Addr.add (Addr.add a (Int.toNat (j:Int)*2)) 1) A fun n9=>K n8 n9):=by
 have hl:s.len=rs.length:=by have:=rd_len h e hr;rw [rangeCells_len] at this;omega
 have hjl:=(List.getElem?_eq_some_iff.1 hj).1
 obtain ⟨q1,q2⟩:=rangeCells_at hj
 obtain ⟨b,o,c1,c2⟩:=rd_cell h e hr q1
 obtain ⟨b',o',c3,c4⟩:=rd_cell h e hr q2
 rw [c1] at c3
 cases c3
 rw [c1]
 refine inB_in (by omega) (by omega) ⟨r.1,?_,r.2,?_,hK⟩
 ·rw [add_at];simpa using c2
 ·rw [add_at,add_at];simpa [Nat.add_assoc] using c4
theorem inR_take {rs:List (Int × Int)} {j:Nat} {r:Int × Int} (hj:rs[j]? = some r) (x:Int):inR (rs.take (j+1)) x↔inR (rs.take j) x∨(r.1≤x∧x<r.2):=by
 have:rs.take (j+1)=rs.take j++[r]:=by
  rw [List.take_add_one,hj];rfl
 unfold inR
 rw [this]
 constructor
 ·rintro ⟨p,hp,h1⟩
  rcases List.mem_append.1 hp with hp | hp
  ·exact .inl ⟨p,hp,h1⟩
  ·simp at hp;subst hp;exact .inr h1
 ·rintro (⟨p,hp,h1⟩ | h1)
  ·exact ⟨p,List.mem_append.2 (.inl hp),h1⟩
  ·exact ⟨r,List.mem_append.2 (.inr (by simp)),h1⟩
set_option maxHeartbeats 1000000 in
theorem bNew_spec {P:SP} {k:Nat} {s:Sl} {rs:List (Int × Int)} {Q:Option Addr→Int→AH→Prop} (h:Own l A) (e:l[k]? = some P) (hr:Reads P s 2 (rangeCells rs))
  (h4:rs.length > 64→Q none 4 A) (h3:rs.length≤64→okR 0 rs=false→Q none 3 A)
  (hk:rs.length≤64→okR 0 rs=true→∀ b A',Own (Bud b (inR rs) (fun _=>False) (sizeR rs)::l) A'→Q (some ⟨b,0,none⟩) 0 A'):qar_A s Q A:=by
 have hl:s.len=rs.length:=by have:=rd_len h e hr;rw [rangeCells_len] at this;omega
 unfold qar_A qar_G
 refine bsel_in (fun c=>h4 (by simp [hl] at c;omega)) fun c=>?_
 have c:rs.length≤64:=by simp [hl] at c;omega
 refine ⟨fun x y m h'=>h'=A∧∃ j:Nat,y=j∧j≤rs.length∧rs.length-j=m∧okR 0 rs=okR x (rs.drop j),⟨_,rfl,0,rfl,by omega,rfl,by simp⟩,?_⟩
 intro x y m h' ⟨e0,j,e1,e2,e3,e4⟩
 subst e0 e1 e3
 refine bsel_in (fun d=>?_) fun d=>?_
 ·have d:j<rs.length:=by simp [hl] at d;omega
  obtain ⟨r,hj⟩:∃ r,rs[j]? = some r:=⟨rs[j],by simp [d]⟩
  have hd:rs.drop j=r::rs.drop (j+1):=by
   rw [List.drop_eq_getElem_cons d]
   have:=(List.getElem?_eq_some_iff.1 hj).2
   rw [this]
  rw [hd] at e4
  simp only [okR] at e4
  refine ld_range h e hr hj ?_
  refine bsel_in (fun g1=>h3 c (by rw [e4,g1];rfl)) fun g1=>?_
  refine bsel_in (fun g2=>h3 c (by rw [e4,g2];simp)) fun g2=>?_
  refine bsel_in (fun g3=>h3 c (by rw [e4,g3];simp)) fun g3=>?_
  exact ⟨rs.length-(j+1),by omega,rfl,j+1,by rw [w64]<;>omega,by omega,rfl,by rw [e4,g1,g2,g3];rfl⟩
 have d:j=rs.length:=by simp [hl] at d;omega
 have hok:okR 0 rs=true:=by rw [e4,d,List.drop_length];rfl
 clear e4
 refine new_M (k:=.i64) h fun g A1 hA1=>?_
 show newA A1 (.cells (cellsJ (fun _=>0) 0 g).toArray _) _
 refine new_C hA1 fun b A2 hA2=>?_
 refine ⟨fun x m h2=>∃ (j:Nat) (mb:Nat→Nat),x=j∧j≤11∧11-j=m∧Own (At b (cellsJ mb j g)::MapI g .i64 []::(newL mb j++l)) h2,⟨_,0,_,rfl,by omega,rfl,hA2⟩,?_⟩
 intro x m A3 ⟨j,mb,i1,i2,i3,hA3⟩
 subst i1 i3
 refine bsel_in (fun d=>?_) fun d=>?_
 ·have d:j<11:=by simp at d;omega
  refine new_M (k:=.i64) hA3 fun v A4 hA4=>?_
  refine inB_in (by omega) (by omega) ?_
  rw [add_at]
  refine st_C (i:=1) hA4 rfl ?_ rfl fun A5 hA5=>?_
  ·rw [show 0+Int.toNat (j:Int)*1=j by omega]
   unfold cellsJ
   rw [List.getElem?_append_left (by simp;omega),List.getElem?_map,List.getElem?_range d]
   rfl
  ·rw [show 0+Int.toNat (j:Int)*1=j by omega,cellsJ_set d] at hA5
   refine ⟨11-(j+1),by omega,j+1,updF mb j v,by rw [w64]<;>omega,by omega,rfl,hA5.perm ?_⟩
   rw [newL_succ]
   show List.Perm (MapI v .i64 []::At b _::MapI g .i64 []::(newL mb j++l)) (At b _::MapI g .i64 []::(newL mb j++[MapI v .i64 []]++l))
   rw [List.append_assoc]
   exact (List.perm_middle (l₁:=At b _::MapI g .i64 []::newL mb j) (l₂:=l)).symm
 have d:j=11:=by simp at d;omega
 subst d
 rw [cellsJ_11] at hA3
 have hA3:Own (budL b mb g (fun _=>[]) [] 0++l) A3:=hA3
 have hlo:=okR_lo rs 0 hok
 have hsz:=sizeR_le rs 0 (by omega) hok
 refine ⟨fun x m h2=>∃ (i:Nat) (st:Nat→List Int),x=i∧i≤rs.length∧rs.length-i=m∧BOK st (inR (rs.take i)) (sizeR (rs.take i))∧Own (budL b mb g st [] (sizeR (rs.take i))++l) h2,
  ⟨_,0,_,rfl,by omega,rfl,BOK.empty.congr (fun x=>by simp [inR]),hA3⟩,?_⟩
 intro x m A4 ⟨i,st,i1,i2,i3,hB,hA4⟩
 subst i1 i3
 have ek:(budL b mb g st [] (sizeR (rs.take i))++l)[13+k]? = some P:=by
  rw [List.getElem?_append_right (by simp [budL,frees])]
  rw [show 13+k-(budL b mb g st [] (sizeR (rs.take i))).length=k by simp [budL,frees]]
  exact e
 refine bsel_in (fun d=>?_) fun d=>?_
 rotate_left
 ·have d:i=rs.length:=by simp [hl] at d;omega
  subst d
  rw [List.take_length] at hB hA4
  exact hk c hok b A4 (Bud.closeH hB ⟨List.nodup_nil,fun x=>by simp,fun x hx=>hx.elim⟩ (by simp;omega) hA4)
 have d:i<rs.length:=by simp [hl] at d;omega
 obtain ⟨r,hj⟩:∃ r,rs[i]? = some r:=⟨rs[i],by simp [d]⟩
 obtain ⟨r1,r2,r3⟩:=hlo r (List.mem_of_getElem? hj)
 have hbef:=okR_app rs 0 i r hok hj
 have hmono:=sizeR_mono rs i (fun r hr=>(hlo r hr).2.1)
 have hmono2:=sizeR_mono rs (i+1) (fun r hr=>(hlo r hr).2.1)
 have hst:=sizeR_take rs i r hj
 refine ld_range hA4 ek hr hj ?_
 refine ⟨fun x m h2=>∃ st,r.1≤x∧x≤r.2∧(r.2-x).toNat=m∧BOK st (fun z=>inR (rs.take i) z∨(r.1≤z∧z<x)) (sizeR (rs.take i)+(x-r.1))∧Own (budL b mb g st [] (sizeR (rs.take i))++l) h2,
  ⟨_,st,Int.le_refl _,by omega,rfl,by rw [Int.sub_self,Int.add_zero];exact hB.congr fun z=>⟨.inl,fun h=>h.elim id fun h=>by omega⟩,hA4⟩,?_⟩
 intro x m A5 ⟨st5,j1,j2,j3,hB5,hA5⟩
 subst j3
 refine bsel_in (fun d5=>?_) fun d5=>?_
 rotate_left
 ·have d5:x=r.2:=by simp at d5;omega
  subst d5
  refine ld_cnt hA5 (st_cnt hA5 fun A6 hA6=>?_)
  have e6:IntKind.wrap .i64 (sizeR (rs.take i)+IntKind.wrap .i64 (r.2-r.1))=sizeR (rs.take (i+1)):=by
   rw [hst,w64 (n:=r.2-r.1) (by omega) (by omega),w64 (by omega) (by omega)]
  rw [e6] at hA6
  rw [←hst] at hB5
  exact ⟨rs.length-(i+1),by omega,i+1,st5,by rw [w64]<;>omega,by omega,rfl,hB5.congr fun z=>(inR_take hj z).symm,hA6⟩
 have d5:x<r.2:=by simpa using d5
 refine ⟨fun y m h2=>h2=A5∧∃ o:Nat,y=o∧o≤10∧10-o=m∧(∃ q,x=2 ^ o*q)∧x+2 ^ o≤r.2,⟨_,rfl,0,rfl,by omega,rfl,⟨x,by simp⟩,by simp;omega⟩,?_⟩
 intro y m A6 ⟨k0,o,k1,k2,k3,⟨q,k4⟩,k5⟩
 subst k0 k1 k3
 have hp:=pow_small (k:=o) (by omega)
 have q0:0≤q:=by
  rcases Int.lt_or_le q 0 with g | g
  ·have:=Int.mul_neg_of_pos_of_neg hp.2 g;omega
  ·exact g
 have fin:qaq_A (some ⟨b,0,none⟩) x (o:Int) (fun h40=>bsel (decide ((o:Int)<0)) False (∃ m32,m32<(r.2-x).toNat∧∃ st,r.1≤IntKind.wrap .i64 (x+IntKind.wrap .i64 ((1:Int)*2 ^ (min (Int.toNat (o:Int)) 64)))∧IntKind.wrap .i64 (x+IntKind.wrap .i64 ((1:Int)*2 ^ (min (Int.toNat (o:Int)) 64)))≤r.2∧(r.2-IntKind.wrap .i64 (x+IntKind.wrap .i64 ((1:Int)*2 ^ (min (Int.toNat (o:Int)) 64)))).toNat=m32∧BOK st (fun z=>inR (rs.take i) z∨(r.1≤z∧z<IntKind.wrap .i64 (x+IntKind.wrap .i64 ((1:Int)*2 ^ (min (Int.toNat (o:Int)) 64))))) (sizeR (rs.take i)+(IntKind.wrap .i64 (x+IntKind.wrap .i64 ((1:Int)*2 ^ (min (Int.toNat (o:Int)) 64)))-r.1))∧Own (budL b mb g st [] (sizeR (rs.take i))++l) h40)) A6:=by
  rw [shl1 (by omega) 1 (by omega) (by omega),Int.one_mul,w64 (n:=x+2 ^ o) (by omega) (by omega)]
  refine add_raw hA5 k2 hB5 ⟨by omega,by omega⟩ ⟨q,k4⟩ (fun z z1 z2=>?_) fun st' A7 hB7 hA7=>bsel_f (by simp) ⟨_,?_,st',by omega,by omega,rfl,?_,hA7⟩
  ·rintro (⟨p,hp1,hp2⟩ | hz)
   ·have:=hbef p hp1;omega
   ·omega
  ·omega
  ·rw [show sizeR (rs.take i)+(x+2 ^ o-r.1)=sizeR (rs.take i)+(x-r.1)+2 ^ o by omega]
   refine hB7.congr fun z=>?_
   constructor
   ·rintro ((z1 | z1) | z1)
    ·exact .inl z1
    ·exact .inr (by omega)
    ·exact .inr (by omega)
   ·rintro (z1 | z1)
    ·exact .inl (.inl z1)
    ·by_cases w:z<x
     ·exact .inl (.inr ⟨z1.1,w⟩)
     ·exact .inr (by omega)
 refine bsel_in (fun d6=>?_) fun d6=>fin
 have d6:o<10:=by simp at d6;omega
 refine bsel_f (by simp) ?_
 refine bsel_in (fun d7=>?_) fun d7=>fin
 rw [shl1 (by omega) 1 (by omega) (by omega),Int.one_mul] at d7
 have d7:q % 2=0:=by
  rw [k4,and_at (by omega) q0 (by omega)] at d7
  simpa using d7
 refine bsel_f (by simp) ?_
 have hs:(2:Int) ^ (o+1)=2 ^ o*2:=Int.pow_succ _ _
 refine bsel_in (fun d8=>?_) fun d8=>fin
 rw [shl1 (by omega) 2 (by omega) (by omega),w64 (by omega) (by omega)] at d8
 have d8:x+2*2 ^ o≤r.2:=by simpa using d8
 exact ⟨10-(o+1),by omega,rfl,o+1,by rw [w64]<;>omega,by omega,rfl,⟨q / 2,by rw [hs,Int.mul_assoc,show 2*(q / 2)=q by omega,k4]⟩,by rw [hs];omega⟩
end Go.Dn
