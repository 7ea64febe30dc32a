/- Entries of the library's: slices.SortFunc, at elements of many cells. -/
import Derived.Test.YtfnkdpmbpgffbaaGreatDnX
import Derived.Shelf.SlSortCmp.WholeK
import Derived.Shelf.SlSortCmp.NoneTotal
namespace Go.Dn
open Go.Proofs Go.RowKit Go.Sort Go.Shelf
def soA {α:Type} (enc:α->List Value) (lt:α->α->Bool) (k:Nat) (s:Sl) (K:AP):AP:=λA=>
 ∃ d:List α,d.length=s.len/\s.len<4611686018427387904/\oU A s.a (s.len*k) (d.flatMap enc)/\(∀ a,s.a=some a->∀ i,i<s.len*k->uX A (a.add i)=false)/\
  ∀ d':List α,d'.Perm d->d'.Pairwise (λx y=>lt y x=false)->zB s.a 0 (d'.flatMap enc) A K
section
variable {α:Type} {enc:α->List Value} {k:Nat}
theorem rO (a:∀ x,(enc x).length=k):∀ d:List α,(d.flatMap enc).length=d.length*k
 | []=>by simp
 | x::d=>by
  have:=rO a d;simp only [List.flatMap_cons,List.length_append,List.length_cons,a,this,Nat.add_mul];omega
theorem aCt (a:∀ x,(enc x).length=k):∀ (d:List α) (t:Nat),t<d.length*k->(d.flatMap enc)[t]? = (d[t / k]?).bind λx=>(enc x)[t % k]?
 | [],t,h=>by simp at h
 | x::d,t,h=>by
  simp only [List.flatMap_cons];have b:0<k:=by grind
  by_cases q:t<k
  .rw [List.getElem?_append_left (by simp_all),Nat.div_eq_of_lt q,Nat.mod_eq_of_lt q];rfl
  .obtain ⟨u,rfl⟩:∃ u,t=u+k:=⟨t-k,by omega⟩;rw [List.getElem?_append_right (by simp_all),a,Nat.add_sub_cancel,Nat.add_div_right _ b,Nat.add_mod_right];simp only [List.getElem?_cons_succ];refine aCt a d u ?_;simp only [List.length_cons,Nat.add_mul] at h;omega
variable [Inhabited α]
theorem wN (a:∀ x,(enc x).length=k) (d:List α):flatK enc k d.toArray=(d.flatMap enc).toArray:=by
 apply Array.ext';apply List.ext_getElem?;intro t;by_cases h:t<d.length*k
 .have c:0<k:=by grind
  have b:t / k<d.length:=(Nat.div_lt_iff_lt_mul c).2 h;have e:t % k<k:=Nat.mod_lt _ c;rw [show (d.flatMap enc).toArray.toList=d.flatMap enc from rfl,aCt a d t h]
  have f:(flatK enc k d.toArray).toList[t]? = some ((enc d[t / k])[t % k]'(by simp_all)):=by
   simp [flatK,h,b,a,e]
  rw [f];simp [b,a,e]
 .have b:(flatK enc k d.toArray).toList[t]? = none:=by simp_all
  rw [b,List.getElem?_eq_none];show (d.flatMap enc).length<=t;rw [rO a];omega
theorem aA9 {b o:Nat} {K:HP}:∀ (vs:List Value) (n:Nat) (w:World),stL vs ⟨b,o,none⟩ n w.heap K->K (w.setCells b (o+n) vs).heap
 | [],_,_,h=>h
 | v::vs,n,w,h=>by
  have a:stC (Addr.add ⟨b,o,none⟩ n) v w.heap λh'=>stL vs ⟨b,o,none⟩ (n+1) h' K:=h
  have c:Addr.add ⟨b,o,none⟩ n=⟨b,o+n,none⟩:=by
   unfold Addr.add;split
   .simp_all
   .rfl
  rw [c] at a;obtain ⟨_,_,_,d⟩:=bG a;exact aA9 vs (n+1) (w.setCell ⟨b,o+n,none⟩ v) d
theorem u7 (F:Array Value) (vs:List Value) (h:vs.length=F.size):setMany F 0 vs=vs.toArray:=by
 refine ext_get! (by simp [h]) λt b=>?_;have a:t<F.size:=by simpa using b
 rw [get_setMany _ _ _ t a,if_pos ⟨Nat.zero_le _,by omega⟩];simp
theorem Sim.grown {A:AH} {L:Bx} {h:Hp} (s:Sim A L h) (os:Array Obj):Sim A L (h++os):=by
 refine ⟨λb o e=>?_,λe m=>?_,s.apart⟩
 .rw [Array.getElem?_append_left (s.lt e)];exact s.sub b o e
 .obtain ⟨a,c⟩:=s.box e m;exact ⟨a,by rw [Array.getElem?_append_left (s.boxLt m)];exact c⟩
theorem aIK {lt:α->α->Bool} {d:List α} {d':Array α} (f:PermIn 0 d.toArray.size d.toArray d') (g:SortedIn lt 0 d.toArray.size d'):d'.toList.Perm d/\d'.toList.Pairwise λx y=>lt y x=false:=by
 obtain ⟨h,_,e⟩:=f;have e1:d'.extract 0 d.toArray.size=d':=by rw [<-h];simp
 have l:d.toArray.extract 0 d.toArray.size=d.toArray:=by simp
 rw [e1,l] at e;refine ⟨e,List.pairwise_iff_getElem.2 λi j hi m a=>?_⟩;have b:j<d'.size:=m;have c:i<d'.size:=hi;have:=g i j (Nat.zero_le _) a (by omega);rw [getElem!_pos d' j b,getElem!_pos d' i c] at this;exact this
theorem aLP {f:Nat} {T:Type} {R:Sl->T} {args:List Value} {G:T->Prop} (h:kA [.c .s,.fn f [] []] T R args G):∃ s:Sl,args=[.slice s.a s.len s.cap,.func (.func f) #[] #[]]/\G (R s):=by
 cases args with
 | nil=>exact h.elim
 | cons v vs=>
  have b:jF .s v λx=>kA [.fn f [] []] T (R x) vs G:=h;clear h;cases v<;>simp only [jF] at b<;>first | exact b.elim | skip
  rename_i a n c;cases vs with
  | nil=>exact b.elim
  | cons v vs=>
   cases v with
   | func m x y=>
    cases m with
    | func g=>
     obtain ⟨x⟩:=x;obtain ⟨y⟩:=y
     have d:(match Nat.beq g f with
      | true=>kS [] (ArC [] (aX [] T)) (R ⟨a,n,c⟩) x λj=>kS [] (aX [] T) j y λl=>kA [] T l vs G
      | false=>False):=b
     cases e:Nat.beq g f with
     | false=>rw [e] at d;exact d.elim
     | true=>
      rw [e] at d;have i:kS [] (ArC [] (aX [] T)) (R ⟨a,n,c⟩) x λj=>kS [] (aX [] T) j y λl=>kA [] T l vs G:=d;clear b d;have e:=lX.1 e;subst e;cases x with
      | cons _ _=>exact i.elim
      | nil=>
       cases y with
       | cons _ _=>exact i.elim
       | nil=>
        cases vs with
        | cons _ _=>exact i.elim
        | nil=>exact ⟨⟨a,n,c⟩,rfl,i⟩
    | _=>exact b.elim
   | _=>exact b.elim
theorem aKs {P:Program} {ρ:Ren} (L:SlLaysF0.n6 P ρ) (aE:∀ w,(isAgg (ρ.t 24)).run P w = .ok true w) (zE:∀ w,(Go.sizeOf (ρ.t 24)).run P w = .ok k w)
  (hk0:0<k) (hk:∀ x,(enc x).length=k) (h1:∀ x,∀ v ∈ enc x,v.oneCell'=true) {cf:α->α->Int} (hO:SWO (ltOf cf)) {f g:FuncId} (hf:ρ.f 6=f)
  (eg:∀ args w,(callFunc g args).run P w = .ok (.enter g args) w)
  (hc:∀ (x y:α) (W:World),Calls P g #[.agg (enc x).toArray,.agg (enc y).toArray] W λe w'=>e = .returned (.int .i64 (cf x y))/\∃ q os',w'=grow (W.drewN q) os')
  {W:aX [.c .s,.fn g [] []] EnR} (hW:W=λs K _=>soA enc (ltOf cf) k s (K (.tuple #[]))) :
  cL P f (y5 (bC [.c .s,.fn g [] []] W)):=by
 subst hf hW;refine ⟨λxs w=>L.f6.enters rfl xs w,λargs K Kp w ⟨A,L0,KA,KpA,s,hh,hk',_⟩=>?_⟩;have hh1:kA [.c .s,.fn g [] []] EnR (λs K _=>soA enc (ltOf cf) k s (K (.tuple #[]))) args λf=>f KA KpA A:=hh;clear hh;obtain ⟨sl,rfl,d,hd,hbig,hrow,hfr,hh2⟩:=aLP hh1;clear hh1;obtain ⟨a,n,c⟩:=sl
 dsimp only at hd hbig hrow hfr hh2 ⊢
 subst hd
 have emp:d=[]->KA (.tuple #[]) A:=λe=>by
  subst e;have:=hh2 [] (List.Perm.refl _) List.Pairwise.nil;cases a<;>exact this
 by_cases he:d=[]
 ·subst he;refine (AnyF.slices_SortFunc_none L a c (.func (.func g) #[] #[]) w).mono ?_;rintro e w' ⟨rfl,rfl⟩;exact ⟨Kin.refl _ _,hk' _ A _ s (emp rfl)⟩
 ·cases a with
  | none=>
   have h2:d.flatMap enc=[]:=hrow;have h3:=rO hk d;rw [h2] at h3;have h4:0<d.length:=List.length_pos_iff.2 he;have h5:=Nat.mul_pos h4 hk0;simp at h3;omega
  | some a=>
   obtain ⟨b,o,sp⟩:=a;have h4:0<d.length:=List.length_pos_iff.2 he;have h5:=Nat.mul_pos h4 hk0;obtain ⟨hl,hcell⟩:=hrow
   have hsp:sp=none:=by
    obtain ⟨v,_,h6⟩:=hcell 0 h5;cases sp with
    | none=>rfl
    | some x=>
     exfalso;unfold bM at h6;split at h6
     ·rw [if_pos (by simp [Addr.add])] at h6;cases h6
     ·cases h6
   subst hsp
   have adA:∀ i,Addr.add ⟨b,o,none⟩ i=⟨b,o+i,none⟩:=λi=>by
    unfold Addr.add;split
    ·simp_all
    ·rfl
   have hH:HoldsK enc k w b o d.toArray:=by
    intro j hj;have hj':j<d.length*k:=by simpa using hj
    obtain ⟨v,h6,h7⟩:=hcell j hj';rw [adA] at h7;have h8:=hfr _ rfl j hj';rw [adA] at h8;refine ⟨?_,?_⟩
    ·rw [nK,s.cell h7,wN hk];rw [getElem!_pos _ j (by simp_all)];congr 1;have:=(List.getElem?_eq_some_iff.1 h6).2;simpa using this.symm
    ·show uN w.heap _=false;rw [s.froz (by simp_all)];exact h8
   have hb:b<w.heap.size:=by
    obtain ⟨v,_,h7⟩:=hcell 0 h5;rw [adA] at h7;obtain ⟨ob,ho⟩:=s.obj (by rw [h7];rfl);exact s.lt ho
   have cS:=AnyQ.slices_SortFunc L k aE zE enc hk h1 cf hO g #[] b o c d.toArray w eg (λm os dk _ x y=>hc x y _) hH hb (by omega);rw [show d.toArray.size=d.length from by simp] at cS;refine cS.mono ?_;rintro e w' ⟨rfl,d',m,os,h6,h7,rfl⟩;obtain ⟨h8,h9⟩:=aIK (by omega) (by omega);have h10:vB (d'.toList.flatMap enc) (Addr.add ⟨b,o,none⟩ 0) 0 A (KA (.tuple #[])):=hh2 d'.toList h8 h9;rw [adA] at h10;refine ⟨⟨rfl,rfl,rfl,λe=>by cases e⟩,?_⟩;have h11:stL (d'.toList.flatMap enc) ⟨b,o+0,none⟩ 0 w.heap λh'=>∃ A',Sim A' L0 h'/\KA (.tuple #[]) A':=nF _ _ _ _ _ _ _ s h10 λA' h' s' hk2=>⟨A',s',hk2⟩;obtain ⟨A',s',h12⟩:=aA9 _ 0 (Sort.ahead w m) h11;refine hk' _ A' _ ?_ h12
   have hsz:(d'.toList.flatMap enc).length=(flatK enc k d.toArray).size:=by
    rw [rO hk,size_flatK,h8.length_eq];simp
   have h13:(Sort.ahead w m).setCells b (o+0+0) (d'.toList.flatMap enc)=putRowK enc k (Sort.ahead w m) b o d':=by
    have e1:putRow id (Sort.ahead w m) b o (flatK enc k d.toArray)=Sort.ahead w m:=putRow_self id _ b o _ hH;have e2:=setCells_putRow (Sort.ahead w m) b o (d'.toList.flatMap enc) 0 (flatK enc k d.toArray) (by omega);rw [e1,u7 _ _ hsz] at e2;refine e2.trans ?_;unfold putRowK;rw [<-wN hk]
   rw [h13] at s';exact s'.grown os
end
def rgE (x:Int × Int):List Value:=[.int .i64 x.1,.int .i64 x.2]
def aCS (x y:Int × Int):Int:=Lib.compareInt x.1 y.1
theorem aKe (x y:Int × Int):ltOf aCS x y=decide (x.1<y.1):=by
 unfold ltOf aCS Lib.compareInt;by_cases a:x.1<y.1
 .simp [a]
 .grind
theorem rgSwo:SWO (ltOf aCS) where
 irrefl x:=by rw [aKe];simp
 trans x y z h1 h2:=by rw [aKe] at *;simp at *;omega
 ntrans x y z h1 h2:=by rw [aKe] at *;simp at *;omega
end Go.Dn
