/- What the proof stands on: Cut, Busy, Spc, LawMaps, Lend, Lend2. -/
import Derived.Test.YtbmolaogibmbiaaGreatReg2
import Derived.Test.YtbmolaogibmbiaaGreatLawTags
/- Regions: what is left when pages go. -/
namespace Go.Dn
variable {A : AH} {l R : List SP} {P : SP} {i k v b : Nat} {s : Sl} {L : List Reg} {y y' : Reg} {p q : Int}
theorem rd6 {K : Int → Int → Bool → Bool → Bool → Int → Prop} (h : Own l A) (e : l[i]? = some (At b y.cells)) (hK : K y.a y.b y.w y.u y.x y.k) :
  aI .i64 ⟨b, 0, none⟩ A fun n0 => aI .i64 ⟨b, 1, none⟩ A fun n1 => aB ⟨b, 2, none⟩ A fun b2 => aB ⟨b, 3, none⟩ A fun b3 => aB ⟨b, 4, none⟩ A fun b4 => aI .i64 ⟨b, 5, none⟩ A fun n5 => K n0 n1 b2 b3 b4 n5 :=
 ld_I h e rfl (ld_I h e rfl (ld_B h e rfl (ld_B h e rfl (ld_B h e rfl (ld_I h e rfl hK)))))
theorem wr6 {K : AP} (h : Own (At b y.cells :: R) A) (hK : ∀ A', Own (At b y'.cells :: R) A' → K A') :
  aC ⟨b, 0, none⟩ (.int .i64 y'.a) A fun h0 => aC ⟨b, 1, none⟩ (.int .i64 y'.b) h0 fun h1 => aC ⟨b, 2, none⟩ (.bool y'.w) h1 fun h2 => aC ⟨b, 3, none⟩ (.bool y'.u) h2 fun h3 => aC ⟨b, 4, none⟩ (.bool y'.x) h3 fun h4 => aC ⟨b, 5, none⟩ (.int .i64 y'.k) h4 K :=
 st_C (i := 0) h rfl rfl rfl fun _ h => st_C (i := 0) h rfl rfl rfl fun _ h => st_C (i := 0) h rfl rfl rfl fun _ h => st_C (i := 0) h rfl rfl rfl fun _ h => st_C (i := 0) h rfl rfl rfl fun _ h => st_C (i := 0) h rfl rfl rfl fun A' h => hK A' h
def reg0 : Reg := ⟨0, 0, false, false, false, 0⟩
def aheadR (y : Reg) (p : Int) : Reg := { y with b := if p < y.b then p else y.b }
def inR6 (y : Reg) (p q : Int) : Reg := { y with a := if p > y.a then p else y.a, b := if q < y.b then q else y.b }
def behR (y : Reg) (q : Int) : Reg := { y with a := if q > y.a then q else y.a }
theorem parts_spec {Q : Int → Int → Bool → Bool → Bool → Int → Int → Int → Bool → Bool → Bool → Int → Int → Int → Bool → Bool → Bool → Int → AH → Prop} (h : Own l A)
  (hk : ∀ A', Own l A' → Q (aheadR y p).a (aheadR y p).b y.w y.u y.x y.k (inR6 y p q).a (inR6 y p q).b y.w y.u y.x y.k (behR y q).a (behR y q).b y.w y.u y.x y.k A') : qee_A y.a y.b y.w y.u y.x y.k p q Q A := by
 unfold qee_A
 refine new_C (cs := y.cells) h fun b1 A1 h1 => new_C (cs := reg0.cells) h1 fun b3 A2 h2 => new_C (cs := reg0.cells) h2 fun b5 A3 h3 => ?_
 simp only [add_at, Nat.zero_add]
 refine rd6 (i := 2) h3 rfl (rd6 (i := 2) h3 rfl (rd6 (i := 2) h3 rfl ⟨rd6 (i := 2) h3 rfl rfl, rd6 (i := 2) h3 rfl rfl, ?_⟩))
 refine wr6 (y' := y) h3.swap fun A4 h4 => ⟨rd6 (i := 2) h4 rfl rfl, ?_⟩
 refine wr6 (y' := y) h4.swap fun A5 h5 => ?_
 refine ld_I (i := 2) h5 rfl rfl (ld_I (i := 2) h5 rfl rfl (ld_I (i := 2) h5 rfl rfl ?_))
 refine st_C (i := 1) h5 rfl rfl rfl fun A6 h6 => st_C (i := 1) h6 rfl rfl rfl fun A7 h7 => ?_
 refine ld_I (i := 2) h7 rfl rfl (st_C (i := 0) h7 rfl rfl rfl fun A8 h8 => ?_)
 have h8 : Own (At b5 (behR y q).cells :: At b3 (inR6 y p q).cells :: At b1 y.cells :: l) A8 := h8
 refine rd6 (i := 1) h8 rfl (rd6 (i := 0) h8 rfl ⟨rd6 (i := 0) h8 rfl rfl, rd6 (i := 1) h8 rfl rfl, ?_⟩)
 refine wr6 (y' := inR6 y p q) h8.swap fun A9 h9 => ⟨rd6 (i := 1) h9 rfl rfl, ?_⟩
 refine wr6 (y' := behR y q) h9.swap fun A10 h10 => ?_
 exact rd6 (i := 1) h10 rfl (rd6 (i := 0) h10 rfl (hk A10 h10.tail.tail.tail))
def cut1 (p q : Int) (y : Reg) : List Reg := if (inR6 y p q).b ≤ (inR6 y p q).a then [y] else
 (if (aheadR y p).b > y.a then [aheadR y p] else []) ++ (if y.b > (behR y q).a then [behR y q] else [])
theorem cut1_len (y : Reg) : (cut1 p q y).length ≤ 2 := by
 unfold cut1
 split
 ·simp
 ·split <;> split <;> simp
def cutR (L : List Reg) (p q : Int) : List Reg := mergedR (L.flatMap (cut1 p q))
theorem cutF_len : ∀ L : List Reg, (L.flatMap (cut1 p q)).length ≤ 2 * L.length
 | [] => by simp
 | y :: L => by
  have h1 := cutF_len L
  have h2 := cut1_len (p := p) (q := q) y
  rw [List.flatMap_cons, List.length_append, List.length_cons]
  omega
theorem split_spec {Q : Sl → AH → Prop} (h : Own l A) (e : l[k]? = some P) (hr : Reads P s 6 (regC L)) (hb : L.length ≤ 1000)
  (hk : ∀ s' A', (s'.a = none → cutR L p q = []) → Own (SlO s' 6 (regC (cutR L p q)) :: l) A' → Q s' A') : qeg_A s p q Q A := by
 have hl := rd_reg_len h e hr
 unfold qeg_A qeg_G
 refine ⟨fun o x m A' => ∃ v : Nat, x = v ∧ m + v = L.length ∧ (o.a = none → (L.take v).flatMap (cut1 p q) = []) ∧ Own (SlO o 6 (regC ((L.take v).flatMap (cut1 p q))) :: l) A', ⟨L.length, 0, rfl, rfl, fun _ => rfl, h.nil6⟩, ?_⟩
 intro o x m A1 ⟨v, e1, e2, ho, h1⟩
 subst e1
 refine bsel_in (fun c => ?_) fun c => ?_
 ·have c : (v : Int) < s.len := of_decide_eq_true c
  obtain ⟨y, hy⟩ : ∃ y, L[v]? = some y := ⟨L[v]'(by omega), by simp⟩
  have ht : (L.take (v + 1)).flatMap (cut1 p q) = (L.take v).flatMap (cut1 p q) ++ cut1 p q y := by rw [take_succ hy, List.flatMap_append]; simp
  have hfl : ((L.take v).flatMap (cut1 p q)).length ≤ 2000 := Nat.le_trans (cutF_len _) (by simp; omega)
  refine ⟨fun o' A' => (o'.a = none → (L.take v).flatMap (cut1 p q) ++ cut1 p q y = []) ∧ Own (SlO o' 6 (regC ((L.take v).flatMap (cut1 p q) ++ cut1 p q y)) :: l) A', fun o' A2 ⟨f1, f2⟩ => ⟨m - 1, by omega, v + 1, by rw [w64] <;> omega, by omega, by rw [ht]; exact f1, by rw [ht]; exact f2⟩, ?_⟩
  generalize (L.take v).flatMap (cut1 p q) = out at *
  obtain ⟨a, q1, q2⟩ := rd_reg (k := k + 1) h1 (by simpa using e) hr hy
  rw [q1]
  refine inB_in (by omega) c (q2 _ (parts_spec (p := p) (q := q) h1 fun A2 h2 => ?_))
  refine bsel_in (fun g => ?_) fun g => ?_
  ·have g : (inR6 y p q).b ≤ (inR6 y p q).a := of_decide_eq_true g
   have hc : cut1 p q y = [y] := by unfold cut1; rw [if_pos g]
   rw [hc]
   exact push_reg h2 ho (by omega) fun s' A3 j1 h3 => ⟨fun z => absurd z j1, h3⟩
  ·have g : ¬ (inR6 y p q).b ≤ (inR6 y p q).a := of_decide_eq_false g
   have hc : cut1 p q y = (if (aheadR y p).b > y.a then [aheadR y p] else []) ++ (if y.b > (behR y q).a then [behR y q] else []) := by unfold cut1; rw [if_neg g]
   rw [hc]
   refine ⟨fun o' A' => (o'.a = none → out ++ (if (aheadR y p).b > y.a then [aheadR y p] else []) = []) ∧ Own (SlO o' 6 (regC (out ++ (if (aheadR y p).b > y.a then [aheadR y p] else []))) :: l) A', fun o' A3 ⟨f1, f2⟩ => ?_, ?_⟩
   ·refine ⟨fun o2 A' => o2 = o' ∧ A' = A3, fun o2 A4 ⟨k1, k2⟩ => ?_, ?_⟩
    ·subst k1 k2
     have hlen : (out ++ (if (aheadR y p).b > y.a then [aheadR y p] else [])).length ≤ 3000 := by
      rw [List.length_append]; split <;> simp <;> omega
     rw [← List.append_assoc]
     generalize out ++ (if (aheadR y p).b > y.a then [aheadR y p] else []) = out2 at *
     refine bsel_in (fun g2 => ?_) fun g2 => ?_
     ·have g2 : y.b > (behR y q).a := of_decide_eq_true g2
      rw [if_pos g2]
      exact push_reg (y := behR y q) f2 f1 (by omega) fun s' A5 j1 h5 => ⟨fun z => absurd z j1, h5⟩
     ·have g2 : ¬ y.b > (behR y q).a := of_decide_eq_false g2
      rw [if_neg g2, List.append_nil]
      exact ⟨f1, f2⟩
    ·unfold qef_A
     exact bsel_f rfl ⟨rfl, rfl⟩
   ·refine bsel_in (fun g2 => ?_) fun g2 => ?_
    ·have g2 : (aheadR y p).b > y.a := of_decide_eq_true g2
     rw [if_pos g2]
     exact push_reg (y := aheadR y p) h2 ho (by omega) fun s' A5 j1 h5 => ⟨fun z => absurd z j1, h5⟩
    ·have g2 : ¬ (aheadR y p).b > y.a := of_decide_eq_false g2
     rw [if_neg g2, List.append_nil]
     exact ⟨ho, h2⟩
 ·have c : ¬(v : Int) < s.len := of_decide_eq_false c
  have hv : v = L.length := by omega
  subst hv
  rw [List.take_length] at ho h1
  refine merged_spec (k := 0) h1 rfl reads_slo (by have := cutF_len (p := p) (q := q) L; omega) fun s5 A2 hs5 h2 => hk s5 A2 hs5 (h2.cons fun C hC => hC.tail)
theorem Cut_spec {Q : Sl → Int → AH → Prop} (h : Own l A) (e : l[k]? = some P) (hr : Reads P s 6 (regC L)) (hr1 : rightB p q = true) (hg : goodB L = true) (hn : (cutR L p q).length ≤ 64)
  (hk : ∀ s' A', (s'.a = none → cutR L p q = []) → Own (SlO s' 6 (regC (cutR L p q)) :: l) A' → Q s' 0 A') : qeh_A s p q Q A := by
 unfold qeh_A qeh_G
 refine right_spec ?_
 rw [hr1]
 refine bsel_f rfl (Good_spec h e hr ?_)
 rw [hg]
 have hlen : L.length ≤ 64 := by
  unfold goodB at hg
  rw [Bool.and_eq_true] at hg
  exact of_decide_eq_true hg.1
 refine bsel_f rfl (split_spec h e hr (by omega) fun s' A1 hs' h1 => ?_)
 unfold qcf_A
 have hl' := rd_reg_len (k := 0) h1 rfl reads_slo
 exact bsel_f (by simp [hl']; omega) (hk s' A1 hs' h1)
end Go.Dn
/- Is a page lent or borrowed? -/
namespace Go.Dn
open Go.MapKept
variable {A : AH} {l R : List SP} {P : SP} {i k k2 k3 v b lm pp : Nat} {s : Sl} {L : List Reg} {y : Reg} {p q box root : Int} {lent : List (Int × Int)}
end Go.Dn
/- A machine of spaces: pages that go. -/
namespace Go.Dn
variable {A : AH} {l R R' : List SP} {P : SP} {k k2 b : Nat} {c : Mb} {u : Int} {F G : Int → Prop} {W : Int → Int → Int} {ls : List Ln} {z : PcZ} {sps : List (Int × Value)} {root box : Int} {tab : Tab} {lf : Int → Option Lf} {tl : List Int} {p : Nat} {s : Sl} {regs : List Reg} {lent : List (Int × Int)} {ps : List Int}
theorem MacL.backN {X : SP} (h : Own (X :: MacL c F G W u ls z sps R) A) : Own (MacL c F G W u ls z sps (X :: R)) A := by
 have := Own.back (l := MacL c F G W u ls z sps (X :: R)) (P := X) (P' := X) 7 rfl h
 exact this
theorem set_regs {s' : Sl} {regs' : List Reg} {K : AP} (h : Own (MacL c F G W u ls z sps (OneS p box root s regs lent :: SlO s' 6 (regC regs') :: l)) A) (hk : ∀ A', Own (MacL c F G W u ls z sps (OneS p box root s' regs' lent :: l)) A' → K A') :
  aC ⟨p, 2, none⟩ (.slice s'.a s'.len s'.cap) A K := by
 obtain ⟨lm, h⟩ := MacL.openOne h
 refine st_C (i := 7) h rfl rfl rfl fun A2 h2 => hk A2 (MacL.closeOne (lm := lm) ?_)
 have h2 : Own (MacL c F G W u ls z sps (At p [.int .i64 box, .int .i64 root, .slice s'.a s'.len s'.cap, .map (some lm)] :: SlO s 6 (regC regs) :: MapI lm .i64 (ivs lent) :: SlO s' 6 (regC regs') :: l)) A2 := h2
 exact MacL.mapR (fun C hC => hC.cons fun D hD => (hD.tail).swap) h2
theorem pTag_spec {id : Int} {tg : Nat} {Q : Int → Bool → AH → Prop} (h : Own (PcS tg z :: R) A) (hk : Q ((z.tag.lookup id).getD 0) (z.tag.lookup id).isSome A) : qdy_A (some ⟨tg, 0, none⟩) id Q A := by
 obtain ⟨bo, bt, hh⟩ := PcS.openH h
 unfold qdy_A
 refine ld_M (i := 0) hh rfl rfl (lk_M (i := 2) hh rfl ?_)
 rw [ivs_lookup]
 cases hl : z.tag.lookup id with
 | none => rw [hl] at hk; exact ⟨0, rfl, hk⟩
 | some n => rw [hl] at hk; exact ⟨n, rfl, hk⟩
end Go.Dn
/- The law SpaceMaps: pages cost nothing until they are used, and give back what they cost. -/
namespace Go.Dn
variable {A : AH} {l R : List SP} {G : Int → Prop} {W : Int → Int → Int} {root : Int} {tab : Tab} {lf : Int → Option Lf} {tl : List Int} {y : Reg} {p : Int}
theorem Rest.bare (h : Rest G W root tab lf tl) (hl : ∀ q, lf q = none) : tl = [root] := by
 have h1 : ∀ f ∈ tl, f = root := fun f hf => by
  obtain ⟨k, q, e⟩ := (h.mem f).1 hf
  rcases Nat.eq_zero_or_pos k with g | g
  ·subst g
   exact ((h.T.root q f).1 e).2
  ·obtain ⟨p, x, e2, _⟩ := h.low k q f e g
   rw [hl p] at e2; cases e2
 have h2 : root ∈ tl := (h.mem root).2 ⟨0, 0, (h.T.root 0 root).2 ⟨rfl, rfl⟩⟩
 match tl, h.nd, h1, h2 with
 | [a], _, h1, _ => rw [h1 a (by simp)]
 | a :: b :: r, hn, h1, _ =>
  have e1 := h1 a (by simp)
  have e2 := h1 b (by simp)
  rw [List.nodup_cons] at hn
  exact absurd (by rw [e1, e2]; simp) hn.1
theorem good_one (h0 : 0 ≤ y.a) (h1 : y.a < y.b) (h2 : y.b ≤ 34359738368) : goodB [y] = true := by
 unfold goodB
 rw [decide_eq_true (by simp), Bool.true_and, List.all_eq_true]
 intro v hv
 have hv : v = 0 := by simp at hv; exact hv
 subst hv
 have : okR6 [y] 0 = okP none y := rfl
 rw [this]
 unfold okP
 rw [decide_eq_false (by omega), decide_eq_false (by omega), decide_eq_false (by omega)]
 rfl
theorem cut_all (h : y.a < y.b) : cutR [y] y.a y.b = [] := by
 have e : cut1 y.a y.b y = [] := by
  unfold cut1
  have e1 : (inR6 y y.a y.b).b = y.b := by simp [inR6]
  have e2 : (inR6 y y.a y.b).a = y.a := by simp [inR6]
  have e3 : (aheadR y y.a).b = y.a := by simp [aheadR, h]
  have e4 : (behR y y.b).a = y.b := by simp [behR]; omega
  rw [e1, e2, e3, e4, if_neg (by omega), if_neg (by omega), if_neg (by omega)]
  rfl
 unfold cutR
 rw [List.flatMap_cons, e]
 rfl
theorem find_one (h : y.a ≤ p) (h2 : p < y.b) : findR [y] p = some y := by
 unfold findR
 rw [List.find?_cons, decide_eq_true h, decide_eq_true h2]
 rfl
end Go.Dn
/- A machine of spaces: what is lent. -/
namespace Go.Dn
variable {A : AH} {l R R' : List SP} {P : SP} {i k k2 b : Nat} {c : Mb} {u : Int} {F G : Int → Prop} {W : Int → Int → Int} {ls : List Ln} {z : PcZ} {sps : List (Int × Value)} {root box root1 root2 : Int} {tab tab1 tab2 : Tab} {lf lf1 lf2 : Int → Option Lf} {tl tl1 tl2 : List Int} {p p1 p2 : Nat} {s s1 s2 : Sl} {regs regs1 regs2 : List Reg} {lent lent1 lent2 : List (Int × Int)} {y : Reg}
theorem one_cells (h : Own l A) (e : l[i]? = some (OneS p box root s regs lent)) : ∃ lm, cellA A ⟨p, 0, none⟩ = some (.int .i64 box) ∧ cellA A ⟨p, 1, none⟩ = some (.int .i64 root) ∧ cellA A ⟨p, 2, none⟩ = some (.slice s.a s.len s.cap) ∧ cellA A ⟨p, 3, none⟩ = some (.map (some lm)) ∧
  (∃ es c, A lm = some (.map es c) ∧ MapE .i64 es (ivs lent)) := by
 obtain ⟨lm, h⟩ := OneS.openH (h.pick i e)
 obtain ⟨es, c, h1, h2, _⟩ := Own.map (i := 2) (l := oneL p lm box root s regs lent ++ l.eraseIdx i) rfl h
 exact ⟨lm, cell_at (i := 0) rfl h rfl, cell_at (i := 0) rfl h rfl, cell_at (i := 0) rfl h rfl, cell_at (i := 0) rfl h rfl, es, c, h1, h2⟩
theorem one_root {K : Int → Prop} (h : Own l A) (e : l[i]? = some (OneS p box root s regs lent)) (hk : K root) : aI .i64 ⟨p, 1, none⟩ A K := by
 obtain ⟨lm, _, h1, _⟩ := one_cells h e
 exact ⟨_, h1, hk⟩
theorem one_box {K : Int → Prop} (h : Own l A) (e : l[i]? = some (OneS p box root s regs lent)) (hk : K box) : aI .i64 ⟨p, 0, none⟩ A K := by
 obtain ⟨lm, h1, _⟩ := one_cells h e
 exact ⟨_, h1, hk⟩
theorem one_sl {K : Sl → Prop} (h : Own l A) (e : l[i]? = some (OneS p box root s regs lent)) (hk : K s) : aS ⟨p, 2, none⟩ A K := by
 obtain ⟨lm, _, _, h1, _⟩ := one_cells h e
 exact ⟨s, h1, hk⟩
theorem one_lent {id : Int} {K : Option Value → Prop} (h : Own l A) (e : l[i]? = some (OneS p box root s regs lent)) (hk : K ((lent.lookup id).map fun v => .int .i64 v)) : aM ⟨p, 3, none⟩ A fun mp => aLk A mp .i64 id K := by
 obtain ⟨lm, _, _, _, h1, es, c, h2, h3⟩ := one_cells h e
 obtain ⟨r, k1, k2, _, _⟩ := find_lookup (k := .i64) (key := id) es.toList (ivs lent) 0 h3
 exact ⟨_, h1, es.toList, by simp [mapEA, h2], r, k1, by rw [k2, ivs_lookup]; exact hk⟩
theorem reads_one : Reads (OneS p box root s regs lent) s 6 (regC regs) := fun B A ⟨lm, hB⟩ u => by
 have h1 : Own (SlO s 6 (regC regs) :: At p [.int .i64 box, .int .i64 root, .slice s.a s.len s.cap, .map (some lm)] :: MapI lm .i64 (ivs lent) :: []) B := Own.swap hB
 obtain ⟨B2, u2, hB2⟩ := h1.sat
 exact reads_slo B2 A hB2 (u2.trans u)
theorem two_swap (h : Own (MacL c F G W u ls z sps (OneS p1 box root1 s1 regs1 lent1 :: OneS p2 box root2 s2 regs2 lent2 :: l)) A) : Own (MacL c F G W u ls z sps (OneS p2 box root2 s2 regs2 lent2 :: OneS p1 box root1 s1 regs1 lent1 :: l)) A := MacL.mapR (fun _ hC => hC.swap) h
theorem Lend_spec {id to page at_ : Int} {pw pu : Bool} {Q : Int → AH → Prop} (h : Own (MacL c F G W u ls z sps (OneS p1 0 root1 s1 regs1 [] :: OneS p2 0 root2 Sl.nil [] lent2 :: l)) A) (hs1 : sps.lookup id = some (ptrV p1)) (hs2 : sps.lookup to = some (ptrV p2)) (hp : StdP c.N F G) (hN : c.N ≤ 1048576)
  (hR1 : Rest G W root1 tab1 lf1 tl1) (hR2 : Rest G W root2 tab2 lf2 tl2) (hb : regs1.length ≤ 64) (hf : findR regs1 page = some y) (hy : y.k = 0) (hu : 0 ≤ u ∧ u + 4 ≤ c.N) (hat : 0 ≤ at_ ∧ at_ < 34359738368) (hl2 : lf2 at_ = none) (hxG : ∀ x, lf1 page = some x → G x.frame)
  (h5 : lf1 page = none → ∀ A', Own (MacL c F G W u ls z sps (OneS p1 0 root1 s1 regs1 [] :: OneS p2 0 root2 Sl.nil [] lent2 :: l)) A' → Q 5 A')
  (h10 : ∀ x, lf1 page = some x → pw = true → y.w = false → ∀ A', Own (MacL c F G W u ls z sps (OneS p1 0 root1 s1 regs1 [] :: OneS p2 0 root2 Sl.nil [] lent2 :: l)) A' → Q 10 A')
  (hk : ∀ x, lf1 page = some x → (pw = true → y.w = true) → ∀ (tk : List Int) (W' : Int → Int → Int) (tab' : Tab) (s' : Sl) A', tk.length = needT tab2 at_ → (∀ x ∈ tk, F x) → StdP c.N (fun x => F x ∧ x ∉ tk) (fun x => G x ∨ x ∈ tk) → Rest (fun x => G x ∨ x ∈ tk) W' root2 tab' (setL lf2 at_ (some ⟨x.frame, pw, pu, false⟩)) (tl2 ++ tk) →
   (∀ f, f ∉ tk → f ∉ tl2 → W' f = W f) → s'.a ≠ none → Own (MacL c (fun x => F x ∧ x ∉ tk) (fun x => G x ∨ x ∈ tk) W' (u + tk.length) ls z sps (OneS p1 0 root1 s1 regs1 [(page, 1)] :: OneS p2 0 root2 s' [⟨at_, at_ + 1, pw, pu, false, 1⟩] lent2 :: l)) A' → Q 0 A') :
  qdv_A (some ⟨c.m, 0, none⟩) id page to at_ pw pu false Q A := by
 unfold qdv_A qdv_G
 refine ld_M (i := 3) h rfl rfl (lk_M (i := 4) h rfl ?_)
 rw [hs1]
 refine ⟨some ⟨p1, 0, none⟩, rfl, ld_M (i := 3) h rfl rfl (lk_M (i := 4) h rfl ?_)⟩
 rw [hs2]
 refine ⟨some ⟨p2, 0, none⟩, rfl, fun A' => A' = A, fun A1 e1 => ?_, bsel_f rfl (bsel_f rfl rfl)⟩
 subst e1
 refine one_sl (i := 7) h rfl ?_
 refine Find_spec (k := 7) h rfl reads_one (by omega) (fun g => by rw [hf] at g; cases g) fun y' hf' _ _ _ => ?_
 rw [hf] at hf'
 cases hf'
 refine one_box (i := 7) h rfl (one_root (i := 7) h rfl (purse_head (k := 3) h rfl ⟨one_root (i := 7) h rfl rfl, ?_⟩))
 refine RQuery_spec h hp.inG hR1 (fun hl A2 h2 => ?_) fun x hl A2 h2 => ?_
 ·refine ⟨fun _ => False, fun _ q => q.elim, bsel_f rfl (bsel_f (by rw [hy]; rfl) (bsel_t rfl (h5 hl A2 h2)))⟩
 ·refine ⟨fun A' => A' = A2, fun A3 e3 => ?_, bsel_f rfl (bsel_f (by rw [hy]; rfl) (bsel_f rfl rfl))⟩
  subst e3
  refine ⟨fun A' => A' = A3 ∧ (pw = true → y.w = true), fun A4 ⟨e4, hwr⟩ => ?_, ?_⟩
  ·subst e4
   refine one_sl (i := 8) h2 rfl ?_
   have hw : IntKind.wrap .i64 (at_ + 1) = at_ + 1 := w64 (by omega) (by omega)
   rw [hw]
   have hrb : rightB at_ (at_ + 1) = true := by
    unfold rightB
    rw [decide_eq_true (by omega), decide_eq_true (by omega), decide_eq_true (by omega), decide_eq_true (by omega)]
    rfl
   refine Add_nil (y := ⟨at_, at_ + 1, pw, pu, false, 1⟩) h2 hrb fun s43 A5 hs43 h3 => bsel_f rfl ?_
   have h3 := MacL.backN h3
   refine one_box (i := 9) h3 rfl (one_root (i := 9) h3 rfl (purse_head (k := 3) h3 rfl ⟨one_root (i := 9) h3 rfl rfl, ?_⟩))
   have hx0 := has0.1 (hp.inG x.frame (hxG x hl))
   refine sMap h3 hp hu hR2 (fun g => by omega) (fun _ _ _ _ g => absurd hl2 g) fun _ _ _ _ _ tk W' tab' A6 hlen htk hp6 hR6 hW6 h6 => bsel_f rfl ?_
   have h6 : Own (MacL c (fun x => F x ∧ x ∉ tk) (fun x => G x ∨ x ∈ tk) W' (u + tk.length) ls z sps (OneS p2 0 root2 Sl.nil [] lent2 :: SlO s43 6 (regC [⟨at_, at_ + 1, pw, pu, false, 1⟩]) :: OneS p1 0 root1 s1 regs1 [] :: l)) A6 := MacL.mapR (fun C hC => ((hC.cons fun D hD => hD.swap).swap)) h6
   simp only [onSome_some, add_at, Nat.zero_add]
   refine set_regs h6 fun A7 h7 => ?_
   have h7 := two_swap h7
   obtain ⟨lm, h8⟩ := MacL.openOne h7
   refine ld_M (i := 7) h8 rfl rfl (lk_M (i := 9) h8 rfl ⟨0, rfl, st_M (i := 9) h8 rfl fun A8 h9 => ?_⟩)
   exact hk x hl hwr tk W' tab' s43 A8 hlen htk hp6 hR6 hW6 hs43 (MacL.closeOne (lm := lm) h9)
  ·refine bsel_in (fun g => ?_) fun g => bsel_f rfl ⟨rfl, fun q => by rw [q] at g; cases g⟩
   refine bsel_in (fun g2 => h10 x hl g (by simpa using g2) A3 h2) fun g2 => bsel_f rfl ⟨rfl, fun _ => by simpa using g2⟩
end Go.Dn
/- A machine of spaces: what is lent comes back; spaces that go. -/
namespace Go.Dn
variable {A : AH} {l R R' : List SP} {P : SP} {i k k2 b : Nat} {c : Mb} {u : Int} {F G : Int → Prop} {W : Int → Int → Int} {ls : List Ln} {z : PcZ} {sps : List (Int × Value)} {root box root1 root2 : Int} {tab tab1 tab2 : Tab} {lf lf1 lf2 : Int → Option Lf} {tl tl1 tl2 : List Int} {p p1 p2 : Nat} {s s1 s2 : Sl} {regs regs1 regs2 : List Reg} {lent lent1 lent2 : List (Int × Int)} {y : Reg}
end Go.Dn
