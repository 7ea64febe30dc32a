/- What the proof stands on: Cut, Busy, Spc, LawMaps, Lend, Lend2. -/
import Derived.Test.YtaafkchlmndbkaaGreatReg2
import Derived.Test.YtaafkchlmndbkaaGreatLawTags
/- Regions: what is left when pages go. -/
namespace Go.Dn
variable {A : AH} {l R : List SP} {P : SP} {i k v b : Nat} {s : Sl} {L : List Reg} {y y' : Reg} {p q : Int}
theorem CloneG_spec {Q : Sl→AH→Prop} (h : Own l A) (e : l[k]? = some P) (hr : Reads P s 6 (regC L)) (hb : L.length ≤ 1000) (hn : s.a = none→L = [])
  (hk : ∀ s' A',s'.len = L.length→(s'.a = none→L = [])→Own (SlO s' 6 (regC L) :: l) A'→Q s' A') : qby_A s Q A := by
 have hl := rd_reg_len h e hr
 unfold qby_A
 refine bsel_in (fun g => ?_) fun g => ?_
 ·have g : s.a = none := by simpa using g
  have hL := hn g
  subst hL
  exact hk Sl.nil A rfl (fun _ => rfl) h.nil6
 ·have g : s.a ≠ none := fun z => by rw [z] at g;cases g
  refine new_C (cs := []) h fun b1 A1 h1 => ?_
  have h2 : Own (SlO ⟨some ⟨b1,0,none⟩,0,0⟩ 6 [] :: l) A1 := h1.imp fun B _ => ⟨⟨by simp,Nat.le_refl _⟩,.inl rfl⟩
  refine ap_reads (i := k) h2 e hr (fun z => absurd z g) (fun z => by cases z) rfl (fun v hv => regC_one hv) ⟨by simp only [hl];omega,by simp only [hl];omega⟩ fun s' A3 j1 j2 h3 => ?_
  exact hk s' A3 (by simp [j1,hl]) (fun z => regC_nil (by simpa using j2 z)) (by simpa using h3)
end Go.Dn
/- Is a page lent or borrowed? -/
namespace Go.Dn
open Go.MapKept
variable {A : AH} {l R : List SP} {P : SP} {i k k2 k3 v b lm pp : Nat} {s : Sl} {L : List Reg} {y : Reg} {p q box root : Int} {lent : List (Int × Int)}
def regBusy (L : List Reg) (p q : Int) : Bool := L.any fun r => r.k == 1 && (decide (r.a < q) && decide (p < r.b))
def lentBusy (m : List (Int × Int)) (p q : Int) : Bool := m.any fun x => decide (x.1 ≥ p) && decide (x.1 < q)
theorem contains_spec {Q : Bool→AH→Prop} (h : Own l A) (e : l[k]? = some P) (hr : Reads P s 6 (regC L)) (e2 : l[k2]? = some (At b [.int .i64 p,.int .i64 q])) (hb : L.length ≤ 1000) (hk : Q (regBusy L p q) A) : qdz_A s (some ⟨b,0,none⟩) Q A := by
 have hl := rd_reg_len h e hr
 unfold qdz_A qdz_G qdy_A qdy_G
 refine ⟨fun x m A' => ∃ v : Nat,x = v ∧ m + v = L.length ∧ A' = A ∧ regBusy L p q = regBusy (L.drop v) p q,⟨L.length,0,rfl,rfl,rfl,by simp⟩,?_⟩
 intro x m A1 ⟨v,e3,e4,e5,e6⟩
 subst e3 e5
 refine bsel_in (fun c => ?_) fun c => ?_
 ·have c : (v : Int) < s.len := of_decide_eq_true c
  obtain ⟨y,hy⟩ : ∃ y,L[v]? = some y := ⟨L[v]'(by omega),by simp⟩
  obtain ⟨a,q1,q2⟩ := rd_reg h e hr hy
  rw [q1]
  have hd : L.drop v = y :: L.drop (v + 1) := by
   have hlt := (List.getElem?_eq_some_iff.1 hy).1
   rw [List.drop_eq_getElem_cons hlt]
   rw [List.getElem?_eq_getElem hlt] at hy
   rw [Option.some.inj hy]
  have hst : regBusy L p q = ((y.k == 1 && (decide (y.a < q) && decide (p < y.b))) || regBusy (L.drop (v + 1)) p q) := by rw [e6,hd];rfl
  refine inB_in (by omega) c (q2 _ ?_)
  unfold qdx_A
  have next : (y.k == 1 && (decide (y.a < q) && decide (p < y.b))) = false→∃ m3,m3 < m ∧ ∃ v' : Nat,IntKind.wrap .i64 ((v : Int) + 1) = v' ∧ m3 + v' = L.length ∧ A1 = A1 ∧ regBusy L p q = regBusy (L.drop v') p q := fun z =>
   ⟨m - 1,by omega,v + 1,by rw [w64] <;> omega,by omega,rfl,by rw [hst,z];rfl⟩
  have yes : (y.k == 1 && (decide (y.a < q) && decide (p < y.b))) = true→Q (decide ((v : Int) ≥ 0)) A1 := fun z => by
   rw [hst,z] at hk
   rw [decide_eq_true (by omega)]
   exact hk
  refine bsel_in (fun g => ld_I h e2 rfl (bsel_in (fun g2 => ld_I h e2 rfl (bsel_in (fun g3 => yes (by rw [g,g2,g3];rfl)) fun g3 => next (by rw [g,g2,g3];rfl))) fun g2 => bsel_f rfl (next (by rw [g,g2];rfl)))) fun g => bsel_f rfl (next (by rw [g];rfl))
 ·have c : ¬(v : Int) < s.len := of_decide_eq_false c
  have : regBusy L p q = false := by rw [e6,List.drop_eq_nil_of_le (by omega)];rfl
  rw [this] at hk
  exact hk
theorem nodup_inj {α β : Type} {f : α→β} : ∀ {l : List α},(l.map f).Nodup→∀ {a b : α},a ∈ l→b ∈ l→f a = f b→a = b
 | [],_,_,_,h,_,_ => by cases h
 | x :: l,h,a,b,ha,hb,e => by
  rw [List.map_cons,List.nodup_cons] at h
  cases ha with
  | head =>
   cases hb with
   | head => rfl
   | tail _ hb' => exact (h.1 (List.mem_map.2 ⟨b,hb',e.symm⟩)).elim
  | tail _ ha' =>
   cases hb with
   | head => exact (h.1 (List.mem_map.2 ⟨a,ha',e⟩)).elim
   | tail _ hb' => exact nodup_inj h.2 ha' hb' e
theorem filter_lt {α : Type} {p q : α→Bool} : ∀ {l : List α},(∀ x ∈ l,q x = true→p x = true)→(∃ x ∈ l,p x = true ∧ q x = false)→(l.filter q).length < (l.filter p).length
 | [],_,h => by obtain ⟨x,hx,_⟩ := h;cases hx
 | x :: l,h1,h2 => by
  have le : ∀ l : List α,(∀ x ∈ l,q x = true→p x = true)→(l.filter q).length ≤ (l.filter p).length := fun l => by
   induction l with
   | nil => intro _;simp
   | cons z l ih =>
    intro hz
    have := ih fun x hx => hz x (by simp [hx])
    cases hq : q z with
    | true => rw [List.filter_cons_of_pos hq,List.filter_cons_of_pos (hz z (by simp) hq)];simpa using this
    | false =>
     rw [List.filter_cons_of_neg (by simp [hq])]
     cases hp : p z with
     | true => rw [List.filter_cons_of_pos hp,List.length_cons];omega
     | false => rw [List.filter_cons_of_neg (by simp [hp])];exact this
  obtain ⟨z,hz,hz1,hz2⟩ := h2
  rcases List.mem_cons.1 hz with rfl | hz
  ·have := le l fun x hx => h1 x (by simp [hx])
   rw [List.filter_cons_of_neg (by simp [hz2]),List.filter_cons_of_pos hz1,List.length_cons];omega
  ·have ih := filter_lt (fun x hx => h1 x (by simp [hx])) ⟨z,hz,hz1,hz2⟩
   cases hq : q x with
   | true => rw [List.filter_cons_of_pos hq,List.filter_cons_of_pos (h1 x (by simp) hq)];simpa using ih
   | false =>
    rw [List.filter_cons_of_neg (by simp [hq])]
    cases hp : p x with
    | true => rw [List.filter_cons_of_pos hp,List.length_cons];omega
    | false => rw [List.filter_cons_of_neg (by simp [hp])];exact ih
def ExM (lm : Nat) (es : Array MapEntry) (c : Nat) (m : List (Int × Value)) : SP := fun B => B lm = some (.map es c) ∧ MapE .i64 es m ∧ Stamped es c
def ItM (it lm : Nat) (c : Nat) (seen : Array Nat) : SP := fun B => B it = some (.mapIter (some lm) c seen c)
theorem busy_spec {Q : Bool→AH→Prop} (h : Own (oneL pp lm box root s L lent ++ R) A) (hb : L.length ≤ 1000)
  (hk : ∀ A',Own (oneL pp lm box root s L lent ++ R) A'→Q (lentBusy lent p q || regBusy L p q) A') : qea_A (some ⟨pp,0,none⟩) p q Q A := by
 have h0 : Own (MapI lm .i64 (ivs lent) :: At pp [.int .i64 box,.int .i64 root,.slice s.a s.len s.cap,.map (some lm)] :: SlO s 6 (regC L) :: R) A := h.pick 2 rfl
 obtain ⟨es,h0⟩ := Own.ex h0
 obtain ⟨c,h0⟩ := Own.ex h0
 have h0 : Own (ExM lm es c (ivs lent) :: At pp [.int .i64 box,.int .i64 root,.slice s.a s.len s.cap,.map (some lm)] :: SlO s 6 (regC L) :: R) A := h0
 have bk : ∀ A',Own (ExM lm es c (ivs lent) :: At pp [.int .i64 box,.int .i64 root,.slice s.a s.len s.cap,.map (some lm)] :: SlO s 6 (regC L) :: R) A'→Own (oneL pp lm box root s L lent ++ R) A' := fun A' h' => by
  have h' : Own (MapI lm .i64 (ivs lent) :: At pp [.int .i64 box,.int .i64 root,.slice s.a s.len s.cap,.map (some lm)] :: SlO s 6 (regC L) :: R) A' := h'.imp fun B hB => ⟨es,c,hB⟩
  exact h'.swap.cons fun C hC => hC.swap
 obtain ⟨B0,u0,hm0,hes,hst⟩ := h0.sat
 unfold qea_A qea_G
 refine new_C (cs := [.int .i64 p,.int .i64 q]) h0 fun b A1 h1 => ?_
 refine ld_M (i := 2) h1 rfl rfl ?_
 obtain ⟨B1,u1,hm1,_⟩ := h1.tail.sat
 refine ⟨es,c,u1 _ _ hm1,fun it hit => ?_⟩
 have h2 : Own (ItM it lm c #[] :: At b [.int .i64 p,.int .i64 q] :: ExM lm es c (ivs lent) :: At pp [.int .i64 box,.int .i64 root,.slice s.a s.len s.cap,.map (some lm)] :: SlO s 6 (regC L) :: R) _ := h1.new (o := .mapIter (some lm) c #[] c) hit fun B hB => hB
 have hkey : ∀ x ∈ es.toList,∃ n w,x.key = .int .i64 n ∧ (n,w) ∈ lent := fun x hx => by
  have : (x.key,x.val) ∈ (ivs lent).map fun t => ((.int .i64 t.1 : Value),t.2) := by rw [← show es.toList.map (fun e => (e.key,e.val)) = _ from hes];exact List.mem_map.2 ⟨x,hx,rfl⟩
  obtain ⟨t,ht,he⟩ := List.mem_map.1 this
  obtain ⟨z,hz,rfl⟩ := List.mem_map.1 ht
  simp only [Prod.mk.injEq] at he
  exact ⟨z.1,z.2,he.1.symm,hz⟩
 have hback : ∀ z ∈ lent,∃ x ∈ es.toList,x.key = .int .i64 z.1 := fun z hz => by
  have : ((.int .i64 z.1 : Value),(.int .i64 z.2 : Value)) ∈ es.toList.map fun e => (e.key,e.val) := by
   rw [show es.toList.map (fun e => (e.key,e.val)) = _ from hes]
   exact List.mem_map.2 ⟨(z.1,.int .i64 z.2),List.mem_map.2 ⟨z,hz,rfl⟩,rfl⟩
  obtain ⟨x,hx,he⟩ := List.mem_map.1 this
  simp only [Prod.mk.injEq] at he
  exact ⟨x,hx,he.1⟩
 refine ⟨fun mm A' => ∃ seen : Array Nat,(∀ x ∈ es.toList,seen.contains x.born = true→∀ n,x.key = .int .i64 n→(decide (n ≥ p) && decide (n < q)) = false) ∧ mm = (es.toList.filter fun x => !seen.contains x.born).length ∧
   Own (ItM it lm c seen :: At b [.int .i64 p,.int .i64 q] :: ExM lm es c (ivs lent) :: At pp [.int .i64 box,.int .i64 root,.slice s.a s.len s.cap,.map (some lm)] :: SlO s 6 (regC L) :: R) A',⟨_,#[],fun x _ hx => by simp at hx,rfl,h2⟩,?_⟩
 intro mm A2 ⟨seen,hseen,hmm,h3⟩
 obtain ⟨B2,u2,hB2⟩ := h3.sat
 obtain ⟨B3,u3,hB3,_⟩ := h3.tail.tail.sat
 have hA2 : A2 it = some (.mapIter (some lm) c seen c) := u2 _ _ hB2
 have hA3 : A2 lm = some (.map es c) := u3 _ _ hB3
 have hnot : (!seen.isEmpty && !es.isEmpty && es.all (fun x => decide (x.born ≥ c))) = false := by
  cases he : es.isEmpty with
  | true => simp
  | false =>
   have : es.all (fun x => decide (x.born ≥ c)) = false := by
    rw [Array.all_eq_false]
    have hpos : 0 < es.size := by
     rcases Nat.eq_zero_or_pos es.size with z | z
     ·exact absurd (Array.eq_empty_of_size_eq_zero z) (Array.isEmpty_eq_false_iff.1 he)
     ·exact z
    refine ⟨0,hpos,?_⟩
    have := hst.1 es[0] (by simp)
    simpa using this
   rw [this];simp
 refine ⟨some lm,c,seen,c,rfl,hA2,es,c,hA3,hnot,fun hemp => ?_,fun x hx hns => ?_⟩
 ·have hall : ∀ x ∈ es.toList,seen.contains x.born = true := fun x hx => by
   cases hc : seen.contains x.born with
   | true => rfl
   | false =>
    have h5 : x ∈ (es.filter fun e => !seen.contains e.born).filter fun e => decide (e.born < c) := by
     rw [Array.mem_filter,Array.mem_filter]
     exact ⟨⟨by simpa using hx,by rw [hc];rfl⟩,by simpa using hst.1 x hx⟩
    rw [Array.isEmpty_iff] at hemp
    rw [hemp] at h5
    simp at h5
  have hlb : lentBusy lent p q = false := by
   unfold lentBusy
   rw [List.any_eq_false]
   intro z hz
   obtain ⟨x,hx,hxk⟩ := hback z hz
   rw [hseen x hx (hall x hx) z.1 hxk];simp
  refine ld_S (i := 3) h3 rfl rfl ?_
  refine contains_spec (k := 4) (k2 := 1) h3 rfl reads_slo rfl hb ?_
  have := hk A2 (bk A2 h3.tail.tail)
  rw [hlb,Bool.false_or] at this
  exact this
 ·have hx' : x ∈ es.toList := by simpa using hx
  obtain ⟨n,w,hxk,hxm⟩ := hkey x hx'
  refine ⟨n,hxk,?_⟩
  have h4 : Own (ItM it lm c (seen.push x.born) :: At b [.int .i64 p,.int .i64 q] :: ExM lm es c (ivs lent) :: At pp [.int .i64 box,.int .i64 root,.slice s.a s.len s.cap,.map (some lm)] :: SlO s 6 (regC L) :: R) (updA A2 it (.mapIter (some lm) c (seen.push x.born) c)) :=
   h3.upd0 (fun B hB => hB) fun B _ => updA_self
  obtain ⟨B4,u4,hB4,_⟩ := h4.tail.tail.sat
  have hfind : es.find? (fun e => e.born == x.born) = some x := by
   cases hf : es.find? (fun e => e.born == x.born) with
   | none =>
    rw [Array.find?_eq_none] at hf
    exact absurd (hf x hx) (by simp)
   | some z =>
    have h6 := Array.find?_some hf
    have h7 := Array.mem_of_find?_eq_some hf
    have : z = x := nodup_inj hst.2.1 (by simpa using h7) hx' (by simpa using h6)
    rw [this]
  refine ⟨lm,c,seen.push x.born,c,x.born,es,c,x,n,rfl,updA_self,by simp,u4 _ _ hB4,rfl,hfind,hxk,?_⟩
  refine ld_I (i := 1) h4 rfl rfl ?_
  have next : (decide (n ≥ p) && decide (n < q)) = false→∃ m9,m9 < mm ∧ ∃ seen' : Array Nat,(∀ x ∈ es.toList,seen'.contains x.born = true→∀ n,x.key = .int .i64 n→(decide (n ≥ p) && decide (n < q)) = false) ∧ m9 = (es.toList.filter fun x => !seen'.contains x.born).length ∧
    Own (ItM it lm c seen' :: At b [.int .i64 p,.int .i64 q] :: ExM lm es c (ivs lent) :: At pp [.int .i64 box,.int .i64 root,.slice s.a s.len s.cap,.map (some lm)] :: SlO s 6 (regC L) :: R) (updA A2 it (.mapIter (some lm) c (seen.push x.born) c)) := fun z => by
   refine ⟨_,?_,seen.push x.born,fun y hy hyc n' hn' => ?_,rfl,h4⟩
   ·rw [hmm]
    refine filter_lt (fun y _ hy => ?_) ⟨x,hx',by rw [hns];rfl,by simp⟩
    simp only [Array.contains_push,Bool.not_or,Bool.and_eq_true] at hy
    exact hy.1
   ·rw [Array.contains_push,Bool.or_eq_true] at hyc
    rcases hyc with hyc | hyc
    ·exact hseen y hy hyc n' hn'
    ·have : y = x := nodup_inj hst.2.1 hy hx' (by simpa using hyc)
     subst this
     rw [hxk] at hn'
     cases hn'
     exact z
  refine bsel_in (fun g => ld_I (i := 1) h4 rfl rfl (bsel_in (fun g2 => ?_) fun g2 => next (by rw [g,g2];rfl))) fun g => next (by rw [g];rfl)
  have hlb : lentBusy lent p q = true := by
   unfold lentBusy
   rw [List.any_eq_true]
   exact ⟨(n,w),hxm,by simp only;rw [g,g2];rfl⟩
  have := hk _ (bk _ h4.tail.tail)
  rw [hlb,Bool.true_or] at this
  exact this
end Go.Dn
/- A machine of spaces: pages that go. -/
namespace Go.Dn
variable {A : AH} {l R R' : List SP} {P : SP} {k k2 b : Nat} {c : Mb} {u : Int} {F G : Int→Prop} {W : Int→Int→Int} {ls : List Ln} {z : PcZ} {sps : List (Int × Value)} {root box : Int} {tab : Tab} {lf : Int→Option Lf} {tl : List Int} {p : Nat} {s : Sl} {regs : List Reg} {lent : List (Int × Int)} {ps : List Int}
theorem MacL.frontN {X : SP} (h : Own (MacL c F G W u ls z sps (X :: R)) A) : Own (X :: MacL c F G W u ls z sps R) A := by
 unfold MacL StdO at h ⊢
 exact h.pick 7 rfl
theorem MacL.backN {X : SP} (h : Own (X :: MacL c F G W u ls z sps R) A) : Own (MacL c F G W u ls z sps (X :: R)) A := by
 have := Own.back (l := MacL c F G W u ls z sps (X :: R)) (P := X) (P' := X) 7 rfl h
 exact this
theorem busyM {q1 q2 : Int} {Q : Bool→AH→Prop} (h : Own (MacL c F G W u ls z sps (OneS p box root s regs lent :: l)) A) (hb : regs.length ≤ 64) (hk : ∀ A',Own (MacL c F G W u ls z sps (OneS p box root s regs lent :: l)) A'→Q (lentBusy lent q1 q2 || regBusy regs q1 q2) A') :
  qea_A (some ⟨p,0,none⟩) q1 q2 Q A := by
 obtain ⟨lm,h⟩ := OneS.openH (MacL.frontN h)
 exact busy_spec h (by omega) fun A' h' => hk A' (MacL.backN (OneS.closeH h'))
theorem pTag_spec {id : Int} {tg : Nat} {Q : Int→Bool→AH→Prop} (h : Own (PcS tg z :: R) A) (hk : Q ((z.tag.lookup id).getD 0) (z.tag.lookup id).isSome A) : qeg_A (some ⟨tg,0,none⟩) id Q A := by
 obtain ⟨bo,bt,hh⟩ := PcS.openH h
 unfold qeg_A
 refine ld_M (i := 0) hh rfl rfl (lk_M (i := 2) hh rfl ?_)
 rw [ivs_lookup]
 cases hl : z.tag.lookup id with
 | none => rw [hl] at hk;exact ⟨0,rfl,hk⟩
 | some n => rw [hl] at hk;exact ⟨n,rfl,hk⟩
end Go.Dn
/- The law SpaceMaps: pages cost nothing until they are used, and give back what they cost. -/
namespace Go.Dn
variable {A : AH} {l R : List SP} {G : Int→Prop} {W : Int→Int→Int} {root : Int} {tab : Tab} {lf : Int→Option Lf} {tl : List Int} {y : Reg} {p : Int}
theorem Rest.bare (h : Rest G W root tab lf tl) (hl : ∀ q,lf q = none) : tl = [root] := by
 have h1 : ∀ f ∈ tl,f = root := fun f hf => by
  obtain ⟨k,q,e⟩ := (h.mem f).1 hf
  rcases Nat.eq_zero_or_pos k with g | g
  ·subst g
   exact ((h.T.root q f).1 e).2
  ·obtain ⟨p,x,e2,_⟩ := h.low k q f e g
   rw [hl p] at e2;cases e2
 have h2 : root ∈ tl := (h.mem root).2 ⟨0,0,(h.T.root 0 root).2 ⟨rfl,rfl⟩⟩
 match tl,h.nd,h1,h2 with
 | [a],_,h1,_ => rw [h1 a (by simp)]
 | a :: b :: r,hn,h1,_ =>
  have e1 := h1 a (by simp)
  have e2 := h1 b (by simp)
  rw [List.nodup_cons] at hn
  exact absurd (by rw [e1,e2];simp) hn.1
end Go.Dn
/- A machine of spaces: what is lent. -/
namespace Go.Dn
variable {A : AH} {l R R' : List SP} {P : SP} {i k k2 b : Nat} {c : Mb} {u : Int} {F G : Int→Prop} {W : Int→Int→Int} {ls : List Ln} {z : PcZ} {sps : List (Int × Value)} {root box root1 root2 : Int} {tab tab1 tab2 : Tab} {lf lf1 lf2 : Int→Option Lf} {tl tl1 tl2 : List Int} {p p1 p2 : Nat} {s s1 s2 : Sl} {regs regs1 regs2 : List Reg} {lent lent1 lent2 : List (Int × Int)} {y : Reg}
theorem one_cells (h : Own l A) (e : l[i]? = some (OneS p box root s regs lent)) : ∃ lm,cellA A ⟨p,0,none⟩ = some (.int .i64 box) ∧ cellA A ⟨p,1,none⟩ = some (.int .i64 root) ∧ cellA A ⟨p,2,none⟩ = some (.slice s.a s.len s.cap) ∧ cellA A ⟨p,3,none⟩ = some (.map (some lm)) ∧
  (∃ es c,A lm = some (.map es c) ∧ MapE .i64 es (ivs lent)) := by
 obtain ⟨lm,h⟩ := OneS.openH (h.pick i e)
 obtain ⟨es,c,h1,h2,_⟩ := Own.map (i := 2) (l := oneL p lm box root s regs lent ++ l.eraseIdx i) rfl h
 exact ⟨lm,cell_at (i := 0) rfl h rfl,cell_at (i := 0) rfl h rfl,cell_at (i := 0) rfl h rfl,cell_at (i := 0) rfl h rfl,es,c,h1,h2⟩
theorem one_root {K : Int→Prop} (h : Own l A) (e : l[i]? = some (OneS p box root s regs lent)) (hk : K root) : aI .i64 ⟨p,1,none⟩ A K := by
 obtain ⟨lm,_,h1,_⟩ := one_cells h e
 exact ⟨_,h1,hk⟩
theorem one_box {K : Int→Prop} (h : Own l A) (e : l[i]? = some (OneS p box root s regs lent)) (hk : K box) : aI .i64 ⟨p,0,none⟩ A K := by
 obtain ⟨lm,h1,_⟩ := one_cells h e
 exact ⟨_,h1,hk⟩
theorem one_sl {K : Sl→Prop} (h : Own l A) (e : l[i]? = some (OneS p box root s regs lent)) (hk : K s) : aS ⟨p,2,none⟩ A K := by
 obtain ⟨lm,_,_,h1,_⟩ := one_cells h e
 exact ⟨s,h1,hk⟩
theorem reads_one : Reads (OneS p box root s regs lent) s 6 (regC regs) := fun B A ⟨lm,hB⟩ u => by
 have h1 : Own (SlO s 6 (regC regs) :: At p [.int .i64 box,.int .i64 root,.slice s.a s.len s.cap,.map (some lm)] :: MapI lm .i64 (ivs lent) :: []) B := Own.swap hB
 obtain ⟨B2,u2,hB2⟩ := h1.sat
 exact reads_slo B2 A hB2 (u2.trans u)
end Go.Dn
/- A machine of spaces: what is lent comes back; spaces that go. -/
namespace Go.Dn
variable {A : AH} {l R R' : List SP} {P : SP} {i k k2 b : Nat} {c : Mb} {u : Int} {F G : Int→Prop} {W : Int→Int→Int} {ls : List Ln} {z : PcZ} {sps : List (Int × Value)} {root box root1 root2 : Int} {tab tab1 tab2 : Tab} {lf lf1 lf2 : Int→Option Lf} {tl tl1 tl2 : List Int} {p p1 p2 : Nat} {s s1 s2 : Sl} {regs regs1 regs2 : List Reg} {lent lent1 lent2 : List (Int × Int)} {y : Reg}
theorem pDrop_none {id : Int} {tg : Nat} {Q : AH→Prop} (h : Own (PcS tg z :: R) A) (hz : z.tag.lookup id = none) (hk : Q A) : qeq_A (some ⟨tg,0,none⟩) id Q A := by
 obtain ⟨bo,bt,hh⟩ := PcS.openH h
 unfold qeq_A
 refine ld_M (i := 0) hh rfl rfl (lk_M (i := 2) hh rfl ?_)
 rw [ivs_lookup,hz]
 exact ⟨0,rfl,bsel_f rfl hk⟩
theorem sDrop {Q : Int→AH→Prop} (h : Own (MacL c F G W u ls z sps l) A) (hp : StdP c.N F G) (hR : Rest G W root tab lf tl) (hl : ∀ q,lf q = none) (hu : 1 ≤ u)
  (hk : ∀ A',StdP c.N (fun x => F x ∨ x = root) (fun x => G x ∧ x ≠ root)→Own (MacL c (fun x => F x ∨ x = root) (fun x => G x ∧ x ≠ root) W (u - 1) ls z sps l) A'→Q 0 A') : qer_A (some ⟨c.r,0,none⟩) (some ⟨c.b,0,none⟩) (some ⟨c.t,0,none⟩) 0 root Q A := by
 have hroot : G root := hR.tg ((hR.T.root 0 root).2 ⟨rfl,rfl⟩)
 refine RDrop_spec (i := 0) h rfl rfl hu hp.inG hR (fun ⟨q,hq⟩ => absurd (hl q) hq) fun _ A' hA => hk A' ⟨fun x hx => ?_,fun x hx => hp.inG x hx.1⟩ ?_
 ·rcases hx with hx | hx
  ·exact hp.inF x hx
  ·subst hx;exact hp.inG _ hroot
 ·have hA : Own (RamW c.r c.N [] W :: Bud c.b (fun x => F x ∨ x = root) (fun x => G x ∧ x ≠ root) (c.N - 1 - u + 1) :: TreeS c.t [⟨-1,c.N - 1,u - 1,0,true⟩] :: At c.m (macC c) :: MapI c.sp .i64 sps :: TlbS c.tl ls :: PcS c.tg z :: l) A' := hA
  rw [show c.N - 1 - u + 1 = c.N - 1 - (u - 1) by omega] at hA
  exact hA
end Go.Dn
