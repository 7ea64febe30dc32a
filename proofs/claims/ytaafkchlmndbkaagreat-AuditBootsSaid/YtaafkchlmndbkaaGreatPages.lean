/- What the proof stands on: Protect, Clear, Unmap, Pages. -/
import Derived.Test.YtaafkchlmndbkaaGreatWords
import Derived.Test.YtaafkchlmndbkaaGreatRoot
/- A page that may be used otherwise. -/
namespace Go.Dn
variable {A : AH} {l R : List SP} {r : Nat} {fr : Int} {hs : List (Int × Int)} {W : Int→Int→Int} {root : Int} {tab : Tab} {lf : Int→Option Lf}
end Go.Dn
/- A frame of zeros. -/
namespace Go.Dn
variable {A : AH} {l R : List SP} {r : Nat} {fr : Int} {hs : List (Int × Int)} {M : Int→Int} {W : Int→Int→Int}
end Go.Dn
/- A page less: tables that have nothing any more are given back. -/
namespace Go.Dn
variable {A : AH} {l R : List SP} {r b t i : Nat} {fr n : Int} {hs : List (Int × Int)} {W : Int→Int→Int} {F G : Int→Prop} {ns : List Nd} {nd : Nd} {root : Int} {tab : Tab} {lf : Int→Option Lf}
def gone (lst : List Int) (v : Nat) : List Int := lst.drop (v + 1)
end Go.Dn
/- All pages that lead somewhere, rising. -/
namespace Go.Dn
variable {A : AH} {l R : List SP} {r o : Nat} {fr : Int} {hs : List (Int × Int)} {W : Int→Int→Int} {root : Int} {tab : Tab} {lf : Int→Option Lf}
def OutS (o : Nat) (out : List Int) : SP := fun B => ∃ s : Sl,(s.len = out.length ∧ (s.a = none→out = [])) ∧ Own [At o [.slice s.a s.len s.cap],SlO s 1 (intsV out)] B
theorem OutS.openH {out : List Int} (h : Own (OutS o out :: R) A) : ∃ s : Sl,(s.len = out.length ∧ (s.a = none→out = [])) ∧ Own (At o [.slice s.a s.len s.cap] :: SlO s 1 (intsV out) :: R) A := by
 obtain ⟨s,h⟩ := Own.ex h
 obtain ⟨h1,h⟩ := Own.pure h
 exact ⟨s,h1,h.flat⟩
theorem OutS.closeH {out : List Int} {s : Sl} (h1 : s.len = out.length) (h2 : s.a = none→out = []) (h : Own (At o [.slice s.a s.len s.cap] :: SlO s 1 (intsV out) :: R) A) : Own (OutS o out :: R) A :=
 (Own.app (l := [At o [.slice s.a s.len s.cap],SlO s 1 (intsV out)]) (r := R) h).imp fun _ hB => ⟨s,⟨h1,h2⟩,hB⟩
theorem rise_len {N : Int} : ∀ (l : List Int) (lo : Int),l.Pairwise (· < ·)→(∀ x ∈ l,lo ≤ x ∧ x < N)→(l.length : Int) ≤ max 0 (N - lo)
 | [],lo,_,_ => by simp;omega
 | x :: r,lo,hp,hb => by
  obtain ⟨h1,h2⟩ := List.pairwise_cons.1 hp
  have hx := hb x List.mem_cons_self
  have := rise_len r (x + 1) h2 fun y hy => ⟨by have := h1 y hy;omega,(hb y (List.mem_cons_of_mem _ hy)).2⟩
  simp only [List.length_cons]
  omega
theorem see_spec {out : List Int} {p : Int} {Q : AH→Prop} (h : Own (OutS o out :: R) A) (hl : (out.length : Int) < 34359738368) (hk : ∀ A',Own (OutS o (out ++ [p]) :: R) A'→Q A') : qeb_A p (some ⟨o,0,none⟩) Q A := by
 obtain ⟨s,⟨h1,h2⟩,h⟩ := OutS.openH h
 unfold qeb_A
 refine ld_S (i := 0) h rfl rfl (new_C (cs := intsV [p]) h fun b3 A1 hA1 => ?_)
 have hA1 : Own (SlAt ⟨some ⟨b3,0,none⟩,1,1⟩ 1 (intsV [p]) :: At o [.slice s.a s.len s.cap] :: SlO s 1 (intsV out) :: R) A1 := hA1.imp fun B hB => (at_slo (k := 1) (sz := 1) rfl hB).look
 have hA1 := hA1.pick 2 rfl
 refine ap_head (i := 0) hA1 rfl (fun q => by cases q) (fun q => by rw [h2 q];rfl) rfl (fun x hx => ?_) ⟨by simp only [h1];omega,by simp only [h1];omega⟩ fun s' A2 j1 j2 hA2 => ?_
 ·simp [intsV] at hx;subst hx;rfl
 rw [← intsV_app] at hA2
 have hA2 : Own (SlO s' 1 (intsV (out ++ [p])) :: SlAt ⟨some ⟨b3,0,none⟩,1,1⟩ 1 (intsV [p]) :: At o [.slice s.a s.len s.cap] :: R) A2 := hA2
 refine st_C (i := 2) hA2 rfl rfl rfl fun A3 hA3 => hk A3 ?_
 have hA3 : Own (SlO s' 1 (intsV (out ++ [p])) :: SlAt ⟨some ⟨b3,0,none⟩,1,1⟩ 1 (intsV [p]) :: At o [.slice s'.a s'.len s'.cap] :: R) A3 := hA3
 refine OutS.closeH (s := s') (by simp only [j1,h1,List.length_append];rfl) (fun q => ?_) ?_
 ·have := j2 q;simp [intsV] at this
 ·exact (hA3.pick 2 rfl).sub (List.Sublist.cons_cons _ (List.Sublist.cons_cons _ (List.sublist_cons_self _ _)))
theorem or_front {q i : Int} (h0 : 0 ≤ q) (h1 : q < 67108864) (h2 : 0 ≤ i) (h3 : i < 512) : bits .or .i64 (IntKind.wrap .i64 (q * 2 ^ (9 : Nat))) i = q * 512 + i := by
 obtain ⟨q,rfl⟩ := Int.eq_ofNat_of_zero_le h0
 obtain ⟨i,rfl⟩ := Int.eq_ofNat_of_zero_le h2
 rw [show ((q : Int) * 2 ^ (9 : Nat)) = ((q * 512 : Nat) : Int) by simp,w64 (by omega) (by omega)]
 have e : bits .or .i64 ((q * 512 : Nat) : Int) ((i : Nat) : Int) = IntKind.wrap .i64 ((BitVec.ofInt 64 ((q * 512 : Nat) : Int) ||| BitVec.ofInt 64 ((i : Nat) : Int)).toNat : Int) := rfl
 rw [e,BitVec.toNat_or,BitVec.ofInt_natCast,BitVec.ofInt_natCast,BitVec.toNat_ofNat,BitVec.toNat_ofNat,Nat.mod_eq_of_lt (by omega),Nat.mod_eq_of_lt (by omega)]
 have := Nat.shiftLeft_add_eq_or_of_lt (b := i) (i := 9) (by omega) q
 rw [Nat.shiftLeft_eq] at this
 rw [show q * 512 = q * 2 ^ 9 by rfl,← this,w64 (by omega) (by omega)]
 omega
def bdP : Nat→Int
 | 0 => 1
 | 1 => 256
 | 2 => 131072
 | _ => 67108864
structure PagesOK (lf : Int→Option Lf) (d : Nat) (q : Int) (ps : List Int) : Prop where
 rise : ps.Pairwise (· < ·)
 mem : ∀ p,p ∈ ps ↔ (lf p ≠ none ∧ (0 ≤ p ∧ p < 34359738368) ∧ preP p d = q)
structure PagesL (lf : Int→Option Lf) (d : Nat) (q : Int) (v : Int) (ps : List Int) : Prop where
 rise : ps.Pairwise (· < ·)
 mem : ∀ p,p ∈ ps ↔ (lf p ≠ none ∧ (0 ≤ p ∧ p < 34359738368) ∧ preP p d = q ∧ atP p d < v)
theorem preP_lt {a c : Int} (ha : 0 ≤ a ∧ a < 34359738368) (hc : 0 ≤ c ∧ c < 34359738368) {d : Nat} (hd : d ≤ 4) (h : preP a d < preP c d) : a < c := by
 obtain rfl | rfl | rfl | rfl | rfl : d = 0 ∨ d = 1 ∨ d = 2 ∨ d = 3 ∨ d = 4 := by omega
 all_goals simp only [preP] at h
 all_goals omega
theorem PagesL.step {d : Nat} {q v : Int} {ps ps' : List Int} (hd : d < 4) (h : PagesL lf d q v ps) (h' : PagesOK lf (d + 1) (q * 512 + v) ps') (hv : 0 ≤ v ∧ v < 512) : PagesL lf d q (v + 1) (ps ++ ps') := by
 refine ⟨List.pairwise_append.2 ⟨h.rise,h'.rise,fun a ha c hc => ?_⟩,fun p => ?_⟩
 ·obtain ⟨_,a1,a2,a3⟩ := (h.mem a).1 ha
  obtain ⟨_,c1,c2⟩ := (h'.mem c).1 hc
  refine preP_lt a1 c1 (d := d + 1) (by omega) ?_
  rw [(preP_succ a1 hd).1,c2,a2]
  omega
 ·rw [List.mem_append,h.mem,h'.mem]
  constructor
  ·rintro (⟨h1,h2,h3,h4⟩ | ⟨h1,h2,h3⟩)
   ·exact ⟨h1,h2,h3,by omega⟩
   ·obtain ⟨e1,e2,e3,_⟩ := preP_succ h2 hd
    rw [e1] at h3
    exact ⟨h1,h2,by omega,by omega⟩
  ·rintro ⟨h1,h2,h3,h4⟩
   obtain ⟨e1,e2,e3,_⟩ := preP_succ h2 hd
   by_cases e : atP p d < v
   ·exact .inl ⟨h1,h2,h3,e⟩
   ·exact .inr ⟨h1,h2,by rw [e1,h3];omega⟩
theorem PagesL.all {d : Nat} {q v : Int} {ps : List Int} (hd : d < 4) (h : PagesL lf d q v ps) (hv : v = 512 ∨ d = 0 ∧ v = 256) : PagesOK lf d q ps := by
 refine ⟨h.rise,fun p => ?_⟩
 rw [h.mem]
 constructor
 ·rintro ⟨h1,h2,h3,_⟩;exact ⟨h1,h2,h3⟩
 ·rintro ⟨h1,h2,h3⟩
  obtain ⟨_,e2,e3,e4,_⟩ := preP_succ h2 hd
  refine ⟨h1,h2,h3,?_⟩
  rcases hv with rfl | ⟨hd0,rfl⟩
  ·exact e3
  ·exact e4 hd0
theorem PagesL.zero {d : Nat} {q : Int} (hd : d < 4) : PagesL lf d q 0 [] := by
 refine ⟨List.Pairwise.nil,fun p => ?_⟩
 simp only [List.not_mem_nil,false_iff]
 rintro ⟨_,h2,_,h4⟩
 have := (preP_succ h2 hd).2.1
 omega
set_option maxRecDepth 100000 in
set_option maxHeartbeats 2000000 in
theorem walk_spec {bx : Int} {pb pt : Option Addr} (hT : TabW W root tab lf) (hhas : ∀ k q f,tab k q = some f→hasF fr hs f = true) : ∀ (e d : Nat) (q f : Int) (out : List Int) (A : AH) (Q : AH→Prop),d + e = 4→1 ≤ e→0 ≤ q→q < bdP d→Own (RamW r fr hs W :: OutS o out :: R) A→tab d q = some f →
  out.Pairwise (· < ·)→(∀ x ∈ out,(0 ≤ x ∧ x < 34359738368) ∧ preP x d < q)→(∀ ps A',PagesOK lf d q ps→Own (RamW r fr hs W :: OutS o (out ++ ps) :: R) A'→Q A') →
  qec_A e (some ⟨r,0,none⟩) pb pt bx f e q (some ⟨o,0,none⟩) Q A := by
 intro e
 induction e with
 | zero => intro d q f out A Q _ h1;omega
 | succ e ih =>
  intro d q f out A Q hde _ hq0 hq1 h ht hr1 hr2 hk
  have hd : d < 4 := by omega
  have hf := hhas _ _ _ ht
  unfold qec_A qec_G
  refine ⟨fun x m h' => ∃ (v : Nat) (ps : List Int),x = v ∧ 512 - v = m ∧ v ≤ 512 ∧ PagesL lf d q v ps ∧ Own (RamW r fr hs W :: OutS o (out ++ ps) :: R) h',⟨_,0,[],rfl,rfl,by omega,PagesL.zero hd,by rw [List.append_nil];exact h⟩,?_⟩
  intro x m A1 ⟨v,ps,i1,i2,i3,i4,h1⟩
  subst i1 i2
  have rise : ∀ {u : Int} {ps : List Int},PagesL lf d q u ps→(out ++ ps).Pairwise (· < ·) := fun {u ps} hL => List.pairwise_append.2 ⟨hr1,hL.rise,fun a ha c hc => by
   obtain ⟨_,c1,c2,_⟩ := (hL.mem c).1 hc
   obtain ⟨a1,a2⟩ := hr2 a ha
   exact preP_lt a1 c1 (d := d) (by omega) (by omega)⟩
  have rng : ∀ x ∈ out ++ ps,0 ≤ x ∧ x < 34359738368 := fun x hx => by
   rcases List.mem_append.1 hx with hx | hx
   ·exact (hr2 x hx).1
   ·exact ((i4.mem x).1 hx).2.1
  refine bsel_in (fun c => ?_) fun c => ?_
  rotate_left
  ·have c : v = 512 := by simp at c;omega
   exact hk ps A1 (i4.all hd (.inl (by omega))) h1
  have c : v < 512 := by simp at c;omega
  refine ⟨fun h' => ∃ ps',PagesOK lf (d + 1) (q * 512 + v) ps' ∧ Own (RamW r fr hs W :: OutS o (out ++ ps ++ ps') :: R) h',?_,?_⟩
  ·intro A2 ⟨ps',k1,k2⟩
   refine ⟨512 - (v + 1),by omega,v + 1,ps ++ ps',by rw [w64] <;> omega,rfl,by omega,i4.step hd k1 ⟨by omega,by omega⟩,?_⟩
   rw [← List.append_assoc];exact k2
  refine ⟨fun h' => h' = A1 ∧ (d = 0→v < 256),?_,?_⟩
  rotate_left
  ·refine bsel_in (fun g => ?_) fun g => ?_
   ·have g : d = 0 := by simp at g;omega
    refine bsel_in (fun g2 => ?_) fun g2 => ⟨rfl,fun _ => by simp at g2;omega⟩
    have g2 : 256 ≤ v := by simp at g2;omega
    rcases Nat.lt_or_ge 256 v with g3 | g3
    ·refine hk ps A1 ?_ h1
     refine ⟨i4.rise,fun p => ?_⟩
     rw [i4.mem]
     constructor
     ·rintro ⟨z1,z2,z3,_⟩;exact ⟨z1,z2,z3⟩
     ·rintro ⟨z1,z2,z3⟩
      obtain ⟨_,_,_,e4,_⟩ := preP_succ z2 hd
      exact ⟨z1,z2,z3,by have := e4 g;omega⟩
    ·exact hk ps A1 (i4.all hd (.inr ⟨g,by omega⟩)) h1
   ·have g : d ≠ 0 := by simp at g;omega
    exact ⟨rfl,fun z => absurd z g⟩
  intro A2 ⟨e2,hv2⟩
  subst e2
  have hq2 : q < 67108864 ∧ q * 512 + v < bdP (d + 1) ∨ d = 3 := by
   obtain rfl | rfl | rfl | rfl : d = 0 ∨ d = 1 ∨ d = 2 ∨ d = 3 := by omega
   ·left;have := hv2 rfl;simp only [bdP] at hq1 ⊢;omega
   ·left;simp only [bdP] at hq1 ⊢;omega
   ·left;simp only [bdP] at hq1 ⊢;omega
   ·right;rfl
  have hq3 : q < 67108864 := by
   rcases hq2 with z | z
   ·exact z.1
   ·subst z;exact hq1
  rw [or_front hq0 hq3 (by omega) (by omega)]
  refine get_head h1 hf ⟨by omega,by omega⟩ fun A3 h3 => ?_
  have nil : (∀ p,0 ≤ p→p < 34359738368→preP p (d + 1) = q * 512 + v→lf p = none)→∃ ps',PagesOK lf (d + 1) (q * 512 + v) ps' ∧ Own (RamW r fr hs W :: OutS o (out ++ ps ++ ps') :: R) A3 := fun hno => by
   refine ⟨[],⟨List.Pairwise.nil,fun p => ?_⟩,by rw [List.append_nil];exact h3⟩
   simp only [List.not_mem_nil,false_iff]
   rintro ⟨z1,z2,z3⟩
   exact z1 (hno p z2.1 z2.2 z3)
  rcases Nat.lt_or_ge d 3 with d3 | d3
  ·have hw := hT.words d q f d3 ht v (by omega) (by omega) (fun z => by have := hv2 z;omega)
   cases hn : tab (d + 1) (q * 512 + v) with
   | none =>
    rw [hn] at hw
    have hw : W f v = 0 := hw
    rw [hw]
    refine bsel_t rfl (nil fun p p0 p1 hp => ?_)
    cases hx : lf p with
    | none => rfl
    | some y => exact absurd (hp ▸ hn) (hT.chain ⟨p0,p1⟩ hx (d + 1) (by omega))
   | some g =>
    rw [hn] at hw
    obtain ⟨w1,w2,_,_⟩ := entI_bits hw (hT.range _ _ _ hn)
    rw [w1,w2]
    refine bsel_f rfl (bsel_f (by simp;omega) ?_)
    rw [w64 (by omega) (by omega),show ((e + 1 : Nat) : Int) - 1 = (e : Int) by omega]
    refine ih (d + 1) (q * 512 + v) g (out ++ ps) A3 _ (by omega) (by omega) (by omega) ?_ h3 hn (rise i4) (fun x hx => ⟨rng x hx,?_⟩) fun ps' A4 k1 k2 => ⟨ps',k1,k2⟩
    ·rcases hq2 with z | z
     ·exact z.2
     ·omega
    ·rcases List.mem_append.1 hx with hx | hx
     ·obtain ⟨x1,x2⟩ := hr2 x hx
      obtain ⟨e1,e2,e3,_⟩ := preP_succ x1 hd
      rw [e1];omega
     ·obtain ⟨_,x1,x2,x3⟩ := (i4.mem x).1 hx
      obtain ⟨e1,e2,e3,_⟩ := preP_succ x1 hd
      rw [e1];omega
  ·have d3 : d = 3 := by omega
   subst d3
   have e0 : e = 0 := by omega
   subst e0
   have hw := hT.leaves q f ht v (by omega) (by omega)
   have h4 : ∀ p : Int,preP p (3 + 1) = p := fun p => rfl
   cases hn : lf (q * 512 + v) with
   | none =>
    rw [hn] at hw
    have hw : W f v = 0 := hw
    rw [hw]
    refine bsel_t rfl (nil fun p p0 p1 hp => ?_)
    rw [h4] at hp
    rw [hp];exact hn
   | some y =>
    rw [hn] at hw
    rw [(leafI_bits hw (hT.rangeL _ _ hn)).1]
    refine bsel_f rfl (bsel_t rfl ?_)
    have hlen := rise_len (N := 34359738368) (out ++ ps) 0 (rise i4) rng
    have hq1 : q < 67108864 := hq1
    have hlast : ((out ++ ps).length : Int) < 34359738368 := by
     have h5 : (out ++ ps ++ [q * 512 + v]).Pairwise (· < ·) := List.pairwise_append.2 ⟨rise i4,by simp,fun a ha c hc => by
      simp only [List.mem_singleton] at hc
      subst hc
      rcases List.mem_append.1 ha with ha | ha
      ·obtain ⟨x1,x2⟩ := hr2 a ha
       obtain ⟨e1,e2,e3,_⟩ := preP_succ x1 hd
       have : preP a (3 + 1) = a := rfl
       omega
      ·obtain ⟨_,x1,x2,x3⟩ := (i4.mem a).1 ha
       obtain ⟨e1,e2,e3,_⟩ := preP_succ x1 hd
       have : preP a (3 + 1) = a := rfl
       omega⟩
     have := rise_len (N := 34359738368) _ 0 h5 fun x hx => by
      rcases List.mem_append.1 hx with hx | hx
      ·exact rng x hx
      ·simp only [List.mem_singleton] at hx;subst hx;omega
     simp only [List.length_append,List.length_singleton] at this ⊢
     omega
    refine see_spec h3.swap hlast fun A4 h4' => ⟨[q * 512 + v],⟨by simp,fun p => ?_⟩,h4'.swap⟩
    rw [h4,List.mem_singleton]
    constructor
    ·rintro rfl;exact ⟨by rw [hn];simp,⟨by omega,by omega⟩,rfl⟩
    ·rintro ⟨_,_,z⟩;exact z
theorem Pages_spec {bx : Int} {pb pt : Option Addr} {Q : Sl→AH→Prop} (h : Own (RamW r fr hs W :: R) A) (hT : TabW W root tab lf) (hhas : ∀ k q f,tab k q = some f→hasF fr hs f = true)
  (hk : ∀ s ps A',s.len = ps.length→(s.a = none→ps = [])→ps.Pairwise (· < ·)→(∀ p,p ∈ ps ↔ (lf p ≠ none ∧ 0 ≤ p ∧ p < 34359738368))→Own (RamW r fr hs W :: SlO s 1 (intsV ps) :: R) A'→Q s A') : qed_A (some ⟨r,0,none⟩) pb pt bx root Q A := by
 unfold qed_A qed_G
 refine new_C (cs := [.slice none 0 0]) h fun b1 A1 h1 => ?_
 have h1 : Own (OutS b1 [] :: RamW r fr hs W :: R) A1 := h1.imp fun B hB => ⟨Sl.nil,⟨rfl,fun _ => rfl⟩,B,fun _ => none,fun _ => .inr rfl,Sub.refl _,(fun _ _ e => nomatch e),hB,fun _ => none,fun _ => none,fun _ => .inr rfl,Sub.refl _,Sub.refl _,SlO.nil,trivial⟩
 refine ⟨4,walk_spec hT hhas 4 0 0 root [] A1 _ (by omega) (by omega) (by omega) (by simp [bdP]) h1.swap ((hT.root 0 root).2 ⟨rfl,rfl⟩) List.Pairwise.nil (by simp) fun ps A2 k1 h2 => ?_⟩
 obtain ⟨s,⟨s1,s2⟩,h2⟩ := OutS.openH h2.swap
 rw [List.nil_append] at s1 s2 h2
 refine ld_S (i := 0) h2 rfl rfl (hk s ps A2 s1 s2 k1.rise (fun p => ?_) (h2.tail.swap))
 rw [k1.mem]
 constructor
 ·rintro ⟨z1,z2,_⟩;exact ⟨z1,z2⟩
 ·rintro ⟨z1,z2⟩;exact ⟨z1,z2,rfl⟩
end Go.Dn
