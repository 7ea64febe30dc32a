/- What the proof stands on: Cut, Busy, Spc, LawMaps. -/
import Derived.Test.YtfchcnkgpklmhaaGreatReg2
import Derived.Test.YtfchcnkgpklmhaaGreatLawTags
/- Regions: what is left when pages go. -/
namespace Go.Dn

variable {A : AH} {l R : List SP} {P : SP} {i k v b : Nat} {s : Sl} {L : List Reg} {y y' : Reg} {p q : Int}
theorem rd6 {K : Int → Int → Bool → Bool → Bool → Int → Prop} (h : Own l A) (e : l[i]? = some (At b y.cells)) (hK : K y.a y.b y.w y.u y.x y.k) :
    aI .i64 ⟨b, 0, none⟩ A fun n0 => aI .i64 ⟨b, 1, none⟩ A fun n1 => aB ⟨b, 2, none⟩ A fun b2 => aB ⟨b, 3, none⟩ A fun b3 => aB ⟨b, 4, none⟩ A fun b4 => aI .i64 ⟨b, 5, none⟩ A fun n5 => K n0 n1 b2 b3 b4 n5 :=
  ld_I h e rfl (ld_I h e rfl (ld_B h e rfl (ld_B h e rfl (ld_B h e rfl (ld_I h e rfl hK)))))
theorem wr6 {K : AP} (h : Own (At b y.cells :: R) A) (hK : ∀ A', Own (At b y'.cells :: R) A' → K A') :
    aC ⟨b, 0, none⟩ (.int .i64 y'.a) A fun h0 => aC ⟨b, 1, none⟩ (.int .i64 y'.b) h0 fun h1 => aC ⟨b, 2, none⟩ (.bool y'.w) h1 fun h2 => aC ⟨b, 3, none⟩ (.bool y'.u) h2 fun h3 => aC ⟨b, 4, none⟩ (.bool y'.x) h3 fun h4 => aC ⟨b, 5, none⟩ (.int .i64 y'.k) h4 K :=
  st_C (i := 0) h rfl rfl rfl fun _ h => st_C (i := 0) h rfl rfl rfl fun _ h => st_C (i := 0) h rfl rfl rfl fun _ h => st_C (i := 0) h rfl rfl rfl fun _ h => st_C (i := 0) h rfl rfl rfl fun _ h => st_C (i := 0) h rfl rfl rfl fun A' h => hK A' h
def reg0 : Reg := ⟨0, 0, false, false, false, 0⟩
def aheadR (y : Reg) (p : Int) : Reg := { y with b := if p < y.b then p else y.b }
def inR6 (y : Reg) (p q : Int) : Reg := { y with a := if p > y.a then p else y.a, b := if q < y.b then q else y.b }
def behR (y : Reg) (q : Int) : Reg := { y with a := if q > y.a then q else y.a }
theorem parts_spec {Q : Int → Int → Bool → Bool → Bool → Int → Int → Int → Bool → Bool → Bool → Int → Int → Int → Bool → Bool → Bool → Int → AH → Prop} (h : Own l A)
    (hk : ∀ A', Own l A' → Q (aheadR y p).a (aheadR y p).b y.w y.u y.x y.k (inR6 y p q).a (inR6 y p q).b y.w y.u y.x y.k (behR y q).a (behR y q).b y.w y.u y.x y.k A') : region_parts_A y.a y.b y.w y.u y.x y.k p q Q A := by
  unfold region_parts_A
  refine new_C (cs := y.cells) h fun b1 A1 h1 => new_C (cs := reg0.cells) h1 fun b3 A2 h2 => new_C (cs := reg0.cells) h2 fun b5 A3 h3 => ?_
  simp only [add_at, Nat.zero_add]
  refine rd6 (i := 2) h3 rfl (rd6 (i := 2) h3 rfl (rd6 (i := 2) h3 rfl ⟨rd6 (i := 2) h3 rfl rfl, rd6 (i := 2) h3 rfl rfl, ?_⟩))
  refine wr6 (y' := y) h3.swap fun A4 h4 => ⟨rd6 (i := 2) h4 rfl rfl, ?_⟩
  refine wr6 (y' := y) h4.swap fun A5 h5 => ?_
  refine ld_I (i := 2) h5 rfl rfl (ld_I (i := 2) h5 rfl rfl (ld_I (i := 2) h5 rfl rfl ?_))
  refine st_C (i := 1) h5 rfl rfl rfl fun A6 h6 => st_C (i := 1) h6 rfl rfl rfl fun A7 h7 => ?_
  refine ld_I (i := 2) h7 rfl rfl (st_C (i := 0) h7 rfl rfl rfl fun A8 h8 => ?_)
  have h8 : Own (At b5 (behR y q).cells :: At b3 (inR6 y p q).cells :: At b1 y.cells :: l) A8 := h8
  refine rd6 (i := 1) h8 rfl (rd6 (i := 0) h8 rfl ⟨rd6 (i := 0) h8 rfl rfl, rd6 (i := 1) h8 rfl rfl, ?_⟩)
  refine wr6 (y' := inR6 y p q) h8.swap fun A9 h9 => ⟨rd6 (i := 1) h9 rfl rfl, ?_⟩
  refine wr6 (y' := behR y q) h9.swap fun A10 h10 => ?_
  exact rd6 (i := 1) h10 rfl (rd6 (i := 0) h10 rfl (hk A10 h10.tail.tail.tail))
/-- What is left of a region. -/
def cut1 (p q : Int) (y : Reg) : List Reg := if (inR6 y p q).b ≤ (inR6 y p q).a then [y] else
  (if (aheadR y p).b > y.a then [aheadR y p] else []) ++ (if y.b > (behR y q).a then [behR y q] else [])
theorem cut1_len (y : Reg) : (cut1 p q y).length ≤ 2 := by
  unfold cut1
  split
  · simp
  · split <;> split <;> simp
def cutR (L : List Reg) (p q : Int) : List Reg := mergedR (L.flatMap (cut1 p q))
theorem cutF_len : ∀ L : List Reg, (L.flatMap (cut1 p q)).length ≤ 2 * L.length
  | [] => by simp
  | y :: L => by
    have h1 := cutF_len L
    have h2 := cut1_len (p := p) (q := q) y
    rw [List.flatMap_cons, List.length_append, List.length_cons]
    omega
theorem split_spec {Q : Sl → AH → Prop} (h : Own l A) (e : l[k]? = some P) (hr : Reads P s 6 (regC L)) (hb : L.length ≤ 1000)
    (hk : ∀ s' A', (s'.a = none → cutR L p q = []) → Own (SlO s' 6 (regC (cutR L p q)) :: l) A' → Q s' A') : region_split_A s p q Q A := by
  have hl := rd_reg_len h e hr
  unfold region_split_A region_split_G
  refine ⟨fun o x m A' => ∃ v : Nat, x = v ∧ m + v = L.length ∧ (o.a = none → (L.take v).flatMap (cut1 p q) = []) ∧ Own (SlO o 6 (regC ((L.take v).flatMap (cut1 p q))) :: l) A', ⟨L.length, 0, rfl, rfl, fun _ => rfl, h.nil6⟩, ?_⟩
  intro o x m A1 ⟨v, e1, e2, ho, h1⟩
  subst e1
  refine bsel_in (fun c => ?_) fun c => ?_
  · have c : (v : Int) < s.len := of_decide_eq_true c
    obtain ⟨y, hy⟩ : ∃ y, L[v]? = some y := ⟨L[v]'(by omega), by simp⟩
    have ht : (L.take (v + 1)).flatMap (cut1 p q) = (L.take v).flatMap (cut1 p q) ++ cut1 p q y := by rw [take_succ hy, List.flatMap_append]; simp
    have hfl : ((L.take v).flatMap (cut1 p q)).length ≤ 2000 := Nat.le_trans (cutF_len _) (by simp; omega)
    refine ⟨fun o' A' => (o'.a = none → (L.take v).flatMap (cut1 p q) ++ cut1 p q y = []) ∧ Own (SlO o' 6 (regC ((L.take v).flatMap (cut1 p q) ++ cut1 p q y)) :: l) A', fun o' A2 ⟨f1, f2⟩ => ⟨m - 1, by omega, v + 1, by rw [w64] <;> omega, by omega, by rw [ht]; exact f1, by rw [ht]; exact f2⟩, ?_⟩
    generalize (L.take v).flatMap (cut1 p q) = out at *
    obtain ⟨a, q1, q2⟩ := rd_reg (k := k + 1) h1 (by simpa using e) hr hy
    rw [q1]
    refine inB_in (by omega) c (q2 _ (parts_spec (p := p) (q := q) h1 fun A2 h2 => ?_))
    refine bsel_in (fun g => ?_) fun g => ?_
    · have g : (inR6 y p q).b ≤ (inR6 y p q).a := of_decide_eq_true g
      have hc : cut1 p q y = [y] := by unfold cut1; rw [if_pos g]
      rw [hc]
      exact push_reg h2 ho (by omega) fun s' A3 j1 h3 => ⟨fun z => absurd z j1, h3⟩
    · have g : ¬ (inR6 y p q).b ≤ (inR6 y p q).a := of_decide_eq_false g
      have hc : cut1 p q y = (if (aheadR y p).b > y.a then [aheadR y p] else []) ++ (if y.b > (behR y q).a then [behR y q] else []) := by unfold cut1; rw [if_neg g]
      rw [hc]
      refine ⟨fun o' A' => (o'.a = none → out ++ (if (aheadR y p).b > y.a then [aheadR y p] else []) = []) ∧ Own (SlO o' 6 (regC (out ++ (if (aheadR y p).b > y.a then [aheadR y p] else []))) :: l) A', fun o' A3 ⟨f1, f2⟩ => ?_, ?_⟩
      · refine ⟨fun o2 A' => o2 = o' ∧ A' = A3, fun o2 A4 ⟨k1, k2⟩ => ?_, ?_⟩
        · subst k1 k2
          have hlen : (out ++ (if (aheadR y p).b > y.a then [aheadR y p] else [])).length ≤ 3000 := by
            rw [List.length_append]; split <;> simp <;> omega
          rw [← List.append_assoc]
          generalize out ++ (if (aheadR y p).b > y.a then [aheadR y p] else []) = out2 at *
          refine bsel_in (fun g2 => ?_) fun g2 => ?_
          · have g2 : y.b > (behR y q).a := of_decide_eq_true g2
            rw [if_pos g2]
            exact push_reg (y := behR y q) f2 f1 (by omega) fun s' A5 j1 h5 => ⟨fun z => absurd z j1, h5⟩
          · have g2 : ¬ y.b > (behR y q).a := of_decide_eq_false g2
            rw [if_neg g2, List.append_nil]
            exact ⟨f1, f2⟩
        · unfold region_Cut_1_A
          exact bsel_f rfl ⟨rfl, rfl⟩
      · refine bsel_in (fun g2 => ?_) fun g2 => ?_
        · have g2 : (aheadR y p).b > y.a := of_decide_eq_true g2
          rw [if_pos g2]
          exact push_reg (y := aheadR y p) h2 ho (by omega) fun s' A5 j1 h5 => ⟨fun z => absurd z j1, h5⟩
        · have g2 : ¬ (aheadR y p).b > y.a := of_decide_eq_false g2
          rw [if_neg g2, List.append_nil]
          exact ⟨ho, h2⟩
  · have c : ¬(v : Int) < s.len := of_decide_eq_false c
    have hv : v = L.length := by omega
    subst hv
    rw [List.take_length] at ho h1
    refine merged_spec (k := 0) h1 rfl reads_slo (by have := cutF_len (p := p) (q := q) L; omega) fun s5 A2 hs5 h2 => hk s5 A2 hs5 (h2.cons fun C hC => hC.tail)
theorem Cut_spec {Q : Sl → Int → AH → Prop} (h : Own l A) (e : l[k]? = some P) (hr : Reads P s 6 (regC L)) (hr1 : rightB p q = true) (hg : goodB L = true) (hn : (cutR L p q).length ≤ 64)
    (hk : ∀ s' A', (s'.a = none → cutR L p q = []) → Own (SlO s' 6 (regC (cutR L p q)) :: l) A' → Q s' 0 A') : region_Cut_A s p q Q A := by
  unfold region_Cut_A region_Cut_G
  refine right_spec ?_
  rw [hr1]
  refine bsel_f rfl (Good_spec h e hr ?_)
  rw [hg]
  have hlen : L.length ≤ 64 := by
    unfold goodB at hg
    rw [Bool.and_eq_true] at hg
    exact of_decide_eq_true hg.1
  refine bsel_f rfl (split_spec h e hr (by omega) fun s' A1 hs' h1 => ?_)
  unfold region_fits_A
  have hl' := rd_reg_len (k := 0) h1 rfl reads_slo
  exact bsel_f (by simp [hl']; omega) (hk s' A1 hs' h1)
end Go.Dn
/- Is a page lent or borrowed? -/
namespace Go.Dn
open Go.MapKept

variable {A : AH} {l R : List SP} {P : SP} {i k k2 k3 v b lm pp : Nat} {s : Sl} {L : List Reg} {y : Reg} {p q box root : Int} {lent : List (Int × Int)}
def regBusy (L : List Reg) (p q : Int) : Bool := L.any fun r => r.k == 1 && (decide (r.a < q) && decide (p < r.b))
def lentBusy (m : List (Int × Int)) (p q : Int) : Bool := m.any fun x => decide (x.1 ≥ p) && decide (x.1 < q)
theorem contains_spec {Q : Bool → AH → Prop} (h : Own l A) (e : l[k]? = some P) (hr : Reads P s 6 (regC L)) (e2 : l[k2]? = some (At b [.int .i64 p, .int .i64 q])) (hb : L.length ≤ 1000) (hk : Q (regBusy L p q) A) : slices_ContainsFunc_region_List_region_Region_A s (some ⟨b, 0, none⟩) Q A := by
  have hl := rd_reg_len h e hr
  unfold slices_ContainsFunc_region_List_region_Region_A slices_ContainsFunc_region_List_region_Region_G slices_IndexFunc_region_List_region_Region_A slices_IndexFunc_region_List_region_Region_G
  refine ⟨fun x m A' => ∃ v : Nat, x = v ∧ m + v = L.length ∧ A' = A ∧ regBusy L p q = regBusy (L.drop v) p q, ⟨L.length, 0, rfl, rfl, rfl, by simp⟩, ?_⟩
  intro x m A1 ⟨v, e3, e4, e5, e6⟩
  subst e3 e5
  refine bsel_in (fun c => ?_) fun c => ?_
  · have c : (v : Int) < s.len := of_decide_eq_true c
    obtain ⟨y, hy⟩ : ∃ y, L[v]? = some y := ⟨L[v]'(by omega), by simp⟩
    obtain ⟨a, q1, q2⟩ := rd_reg h e hr hy
    rw [q1]
    have hd : L.drop v = y :: L.drop (v + 1) := by
      have hlt := (List.getElem?_eq_some_iff.1 hy).1
      rw [List.drop_eq_getElem_cons hlt]
      rw [List.getElem?_eq_getElem hlt] at hy
      rw [Option.some.inj hy]
    have hst : regBusy L p q = ((y.k == 1 && (decide (y.a < q) && decide (p < y.b))) || regBusy (L.drop (v + 1)) p q) := by rw [e6, hd]; rfl
    refine inB_in (by omega) c (q2 _ ?_)
    unfold space_one_busy_1_A
    have next : (y.k == 1 && (decide (y.a < q) && decide (p < y.b))) = false → ∃ m3, m3 < m ∧ ∃ v' : Nat, IntKind.wrap .i64 ((v : Int) + 1) = v' ∧ m3 + v' = L.length ∧ A1 = A1 ∧ regBusy L p q = regBusy (L.drop v') p q := fun z =>
      ⟨m - 1, by omega, v + 1, by rw [w64] <;> omega, by omega, rfl, by rw [hst, z]; rfl⟩
    have yes : (y.k == 1 && (decide (y.a < q) && decide (p < y.b))) = true → Q (decide ((v : Int) ≥ 0)) A1 := fun z => by
      rw [hst, z] at hk
      rw [decide_eq_true (by omega)]
      exact hk
    refine bsel_in (fun g => ld_I h e2 rfl (bsel_in (fun g2 => ld_I h e2 rfl (bsel_in (fun g3 => yes (by rw [g, g2, g3]; rfl)) fun g3 => next (by rw [g, g2, g3]; rfl))) fun g2 => bsel_f rfl (next (by rw [g, g2]; rfl)))) fun g => bsel_f rfl (next (by rw [g]; rfl))
  · have c : ¬(v : Int) < s.len := of_decide_eq_false c
    have : regBusy L p q = false := by rw [e6, List.drop_eq_nil_of_le (by omega)]; rfl
    rw [this] at hk
    exact hk
theorem nodup_inj {α β : Type} {f : α → β} : ∀ {l : List α}, (l.map f).Nodup → ∀ {a b : α}, a ∈ l → b ∈ l → f a = f b → a = b
  | [], _, _, _, h, _, _ => by cases h
  | x :: l, h, a, b, ha, hb, e => by
    rw [List.map_cons, List.nodup_cons] at h
    cases ha with
    | head =>
      cases hb with
      | head => rfl
      | tail _ hb' => exact (h.1 (List.mem_map.2 ⟨b, hb', e.symm⟩)).elim
    | tail _ ha' =>
      cases hb with
      | head => exact (h.1 (List.mem_map.2 ⟨a, ha', e⟩)).elim
      | tail _ hb' => exact nodup_inj h.2 ha' hb' e
theorem filter_lt {α : Type} {p q : α → Bool} : ∀ {l : List α}, (∀ x ∈ l, q x = true → p x = true) → (∃ x ∈ l, p x = true ∧ q x = false) → (l.filter q).length < (l.filter p).length
  | [], _, h => by obtain ⟨x, hx, _⟩ := h; cases hx
  | x :: l, h1, h2 => by
    have le : ∀ l : List α, (∀ x ∈ l, q x = true → p x = true) → (l.filter q).length ≤ (l.filter p).length := fun l => by
      induction l with
      | nil => intro _; simp
      | cons z l ih =>
        intro hz
        have := ih fun x hx => hz x (by simp [hx])
        cases hq : q z with
        | true => rw [List.filter_cons_of_pos hq, List.filter_cons_of_pos (hz z (by simp) hq)]; simpa using this
        | false =>
          rw [List.filter_cons_of_neg (by simp [hq])]
          cases hp : p z with
          | true => rw [List.filter_cons_of_pos hp, List.length_cons]; omega
          | false => rw [List.filter_cons_of_neg (by simp [hp])]; exact this
    obtain ⟨z, hz, hz1, hz2⟩ := h2
    rcases List.mem_cons.1 hz with rfl | hz
    · have := le l fun x hx => h1 x (by simp [hx])
      rw [List.filter_cons_of_neg (by simp [hz2]), List.filter_cons_of_pos hz1, List.length_cons]; omega
    · have ih := filter_lt (fun x hx => h1 x (by simp [hx])) ⟨z, hz, hz1, hz2⟩
      cases hq : q x with
      | true => rw [List.filter_cons_of_pos hq, List.filter_cons_of_pos (h1 x (by simp) hq)]; simpa using ih
      | false =>
        rw [List.filter_cons_of_neg (by simp [hq])]
        cases hp : p x with
        | true => rw [List.filter_cons_of_pos hp, List.length_cons]; omega
        | false => rw [List.filter_cons_of_neg (by simp [hp])]; exact ih
/-- A map whose entries are told. -/
def ExM (lm : Nat) (es : Array MapEntry) (c : Nat) (m : List (Int × Value)) : SP := fun B => B lm = some (.map es c) ∧ MapE .i64 es m ∧ Stamped es c
def ItM (it lm : Nat) (c : Nat) (seen : Array Nat) : SP := fun B => B it = some (.mapIter (some lm) c seen c)
theorem busy_spec {Q : Bool → AH → Prop} (h : Own (oneL pp lm box root s L lent ++ R) A) (hb : L.length ≤ 1000)
    (hk : ∀ A', Own (oneL pp lm box root s L lent ++ R) A' → Q (lentBusy lent p q || regBusy L p q) A') : space_one_busy_A (some ⟨pp, 0, none⟩) p q Q A := by
  have h0 : Own (MapI lm .i64 (ivs lent) :: At pp [.int .i64 box, .int .i64 root, .slice s.a s.len s.cap, .map (some lm)] :: SlO s 6 (regC L) :: R) A := h.pick 2 rfl
  obtain ⟨es, h0⟩ := Own.ex h0
  obtain ⟨c, h0⟩ := Own.ex h0
  have h0 : Own (ExM lm es c (ivs lent) :: At pp [.int .i64 box, .int .i64 root, .slice s.a s.len s.cap, .map (some lm)] :: SlO s 6 (regC L) :: R) A := h0
  have bk : ∀ A', Own (ExM lm es c (ivs lent) :: At pp [.int .i64 box, .int .i64 root, .slice s.a s.len s.cap, .map (some lm)] :: SlO s 6 (regC L) :: R) A' → Own (oneL pp lm box root s L lent ++ R) A' := fun A' h' => by
    have h' : Own (MapI lm .i64 (ivs lent) :: At pp [.int .i64 box, .int .i64 root, .slice s.a s.len s.cap, .map (some lm)] :: SlO s 6 (regC L) :: R) A' := h'.imp fun B hB => ⟨es, c, hB⟩
    exact h'.swap.cons fun C hC => hC.swap
  obtain ⟨B0, u0, hm0, hes, hst⟩ := h0.sat
  unfold space_one_busy_A space_one_busy_G
  refine new_C (cs := [.int .i64 p, .int .i64 q]) h0 fun b A1 h1 => ?_
  refine ld_M (i := 2) h1 rfl rfl ?_
  obtain ⟨B1, u1, hm1, _⟩ := h1.tail.sat
  refine ⟨es, c, u1 _ _ hm1, fun it hit => ?_⟩
  have h2 : Own (ItM it lm c #[] :: At b [.int .i64 p, .int .i64 q] :: ExM lm es c (ivs lent) :: At pp [.int .i64 box, .int .i64 root, .slice s.a s.len s.cap, .map (some lm)] :: SlO s 6 (regC L) :: R) _ := h1.new (o := .mapIter (some lm) c #[] c) hit fun B hB => hB
  have hkey : ∀ x ∈ es.toList, ∃ n w, x.key = .int .i64 n ∧ (n, w) ∈ lent := fun x hx => by
    have : (x.key, x.val) ∈ (ivs lent).map fun t => ((.int .i64 t.1 : Value), t.2) := by rw [← show es.toList.map (fun e => (e.key, e.val)) = _ from hes]; exact List.mem_map.2 ⟨x, hx, rfl⟩
    obtain ⟨t, ht, he⟩ := List.mem_map.1 this
    obtain ⟨z, hz, rfl⟩ := List.mem_map.1 ht
    simp only [Prod.mk.injEq] at he
    exact ⟨z.1, z.2, he.1.symm, hz⟩
  have hback : ∀ z ∈ lent, ∃ x ∈ es.toList, x.key = .int .i64 z.1 := fun z hz => by
    have : ((.int .i64 z.1 : Value), (.int .i64 z.2 : Value)) ∈ es.toList.map fun e => (e.key, e.val) := by
      rw [show es.toList.map (fun e => (e.key, e.val)) = _ from hes]
      exact List.mem_map.2 ⟨(z.1, .int .i64 z.2), List.mem_map.2 ⟨z, hz, rfl⟩, rfl⟩
    obtain ⟨x, hx, he⟩ := List.mem_map.1 this
    simp only [Prod.mk.injEq] at he
    exact ⟨x, hx, he.1⟩
  refine ⟨fun mm A' => ∃ seen : Array Nat, (∀ x ∈ es.toList, seen.contains x.born = true → ∀ n, x.key = .int .i64 n → (decide (n ≥ p) && decide (n < q)) = false) ∧ mm = (es.toList.filter fun x => !seen.contains x.born).length ∧
      Own (ItM it lm c seen :: At b [.int .i64 p, .int .i64 q] :: ExM lm es c (ivs lent) :: At pp [.int .i64 box, .int .i64 root, .slice s.a s.len s.cap, .map (some lm)] :: SlO s 6 (regC L) :: R) A', ⟨_, #[], fun x _ hx => by simp at hx, rfl, h2⟩, ?_⟩
  intro mm A2 ⟨seen, hseen, hmm, h3⟩
  obtain ⟨B2, u2, hB2⟩ := h3.sat
  obtain ⟨B3, u3, hB3, _⟩ := h3.tail.tail.sat
  have hA2 : A2 it = some (.mapIter (some lm) c seen c) := u2 _ _ hB2
  have hA3 : A2 lm = some (.map es c) := u3 _ _ hB3
  have hnot : (!seen.isEmpty && !es.isEmpty && es.all (fun x => decide (x.born ≥ c))) = false := by
    cases he : es.isEmpty with
    | true => simp
    | false =>
      have : es.all (fun x => decide (x.born ≥ c)) = false := by
        rw [Array.all_eq_false]
        have hpos : 0 < es.size := by
          rcases Nat.eq_zero_or_pos es.size with z | z
          · exact absurd (Array.eq_empty_of_size_eq_zero z) (Array.isEmpty_eq_false_iff.1 he)
          · exact z
        refine ⟨0, hpos, ?_⟩
        have := hst.1 es[0] (by simp)
        simpa using this
      rw [this]; simp
  refine ⟨some lm, c, seen, c, rfl, hA2, es, c, hA3, hnot, fun hemp => ?_, fun x hx hns => ?_⟩
  · have hall : ∀ x ∈ es.toList, seen.contains x.born = true := fun x hx => by
      cases hc : seen.contains x.born with
      | true => rfl
      | false =>
        have h5 : x ∈ (es.filter fun e => !seen.contains e.born).filter fun e => decide (e.born < c) := by
          rw [Array.mem_filter, Array.mem_filter]
          exact ⟨⟨by simpa using hx, by rw [hc]; rfl⟩, by simpa using hst.1 x hx⟩
        rw [Array.isEmpty_iff] at hemp
        rw [hemp] at h5
        simp at h5
    have hlb : lentBusy lent p q = false := by
      unfold lentBusy
      rw [List.any_eq_false]
      intro z hz
      obtain ⟨x, hx, hxk⟩ := hback z hz
      rw [hseen x hx (hall x hx) z.1 hxk]; simp
    refine ld_S (i := 3) h3 rfl rfl ?_
    refine contains_spec (k := 4) (k2 := 1) h3 rfl reads_slo rfl hb ?_
    have := hk A2 (bk A2 h3.tail.tail)
    rw [hlb, Bool.false_or] at this
    exact this
  · have hx' : x ∈ es.toList := by simpa using hx
    obtain ⟨n, w, hxk, hxm⟩ := hkey x hx'
    refine ⟨n, hxk, ?_⟩
    have h4 : Own (ItM it lm c (seen.push x.born) :: At b [.int .i64 p, .int .i64 q] :: ExM lm es c (ivs lent) :: At pp [.int .i64 box, .int .i64 root, .slice s.a s.len s.cap, .map (some lm)] :: SlO s 6 (regC L) :: R) (updA A2 it (.mapIter (some lm) c (seen.push x.born) c)) :=
      h3.upd0 (fun B hB => hB) fun B _ => updA_self
    obtain ⟨B4, u4, hB4, _⟩ := h4.tail.tail.sat
    have hfind : es.find? (fun e => e.born == x.born) = some x := by
      cases hf : es.find? (fun e => e.born == x.born) with
      | none =>
        rw [Array.find?_eq_none] at hf
        exact absurd (hf x hx) (by simp)
      | some z =>
        have h6 := Array.find?_some hf
        have h7 := Array.mem_of_find?_eq_some hf
        have : z = x := nodup_inj hst.2.1 (by simpa using h7) hx' (by simpa using h6)
        rw [this]
    refine ⟨lm, c, seen.push x.born, c, x.born, es, c, x, n, rfl, updA_self, by simp, u4 _ _ hB4, rfl, hfind, hxk, ?_⟩
    refine ld_I (i := 1) h4 rfl rfl ?_
    have next : (decide (n ≥ p) && decide (n < q)) = false → ∃ m9, m9 < mm ∧ ∃ seen' : Array Nat, (∀ x ∈ es.toList, seen'.contains x.born = true → ∀ n, x.key = .int .i64 n → (decide (n ≥ p) && decide (n < q)) = false) ∧ m9 = (es.toList.filter fun x => !seen'.contains x.born).length ∧
        Own (ItM it lm c seen' :: At b [.int .i64 p, .int .i64 q] :: ExM lm es c (ivs lent) :: At pp [.int .i64 box, .int .i64 root, .slice s.a s.len s.cap, .map (some lm)] :: SlO s 6 (regC L) :: R) (updA A2 it (.mapIter (some lm) c (seen.push x.born) c)) := fun z => by
      refine ⟨_, ?_, seen.push x.born, fun y hy hyc n' hn' => ?_, rfl, h4⟩
      · rw [hmm]
        refine filter_lt (fun y _ hy => ?_) ⟨x, hx', by rw [hns]; rfl, by simp⟩
        simp only [Array.contains_push, Bool.not_or, Bool.and_eq_true] at hy
        exact hy.1
      · rw [Array.contains_push, Bool.or_eq_true] at hyc
        rcases hyc with hyc | hyc
        · exact hseen y hy hyc n' hn'
        · have : y = x := nodup_inj hst.2.1 hy hx' (by simpa using hyc)
          subst this
          rw [hxk] at hn'
          cases hn'
          exact z
    refine bsel_in (fun g => ld_I (i := 1) h4 rfl rfl (bsel_in (fun g2 => ?_) fun g2 => next (by rw [g, g2]; rfl))) fun g => next (by rw [g]; rfl)
    have hlb : lentBusy lent p q = true := by
      unfold lentBusy
      rw [List.any_eq_true]
      exact ⟨(n, w), hxm, by simp only; rw [g, g2]; rfl⟩
    have := hk _ (bk _ h4.tail.tail)
    rw [hlb, Bool.true_or] at this
    exact this
end Go.Dn
/- A machine of spaces: pages that go. -/
namespace Go.Dn

variable {A : AH} {l R R' : List SP} {P : SP} {k k2 b : Nat} {c : Mb} {u : Int} {F G : Int → Prop} {W : Int → Int → Int} {ls : List Ln} {z : PcZ} {sps : List (Int × Value)} {root box : Int} {tab : Tab} {lf : Int → Option Lf} {tl : List Int} {p : Nat} {s : Sl} {regs : List Reg} {lent : List (Int × Int)} {ps : List Int}
theorem MacL.frontN {X : SP} (h : Own (MacL c F G W u ls z sps (X :: R)) A) : Own (X :: MacL c F G W u ls z sps R) A := by
  unfold MacL StdO at h ⊢
  exact h.pick 7 rfl
theorem MacL.backN {X : SP} (h : Own (X :: MacL c F G W u ls z sps R) A) : Own (MacL c F G W u ls z sps (X :: R)) A := by
  have := Own.back (l := MacL c F G W u ls z sps (X :: R)) (P := X) (P' := X) 7 rfl h
  exact this
theorem set_regs {s' : Sl} {regs' : List Reg} {K : AP} (h : Own (MacL c F G W u ls z sps (OneS p box root s regs lent :: SlO s' 6 (regC regs') :: l)) A) (hk : ∀ A', Own (MacL c F G W u ls z sps (OneS p box root s' regs' lent :: l)) A' → K A') :
    aC ⟨p, 2, none⟩ (.slice s'.a s'.len s'.cap) A K := by
  obtain ⟨lm, h⟩ := MacL.openOne h
  refine st_C (i := 7) h rfl rfl rfl fun A2 h2 => hk A2 (MacL.closeOne (lm := lm) ?_)
  have h2 : Own (MacL c F G W u ls z sps (At p [.int .i64 box, .int .i64 root, .slice s'.a s'.len s'.cap, .map (some lm)] :: SlO s 6 (regC regs) :: MapI lm .i64 (ivs lent) :: SlO s' 6 (regC regs') :: l)) A2 := h2
  exact MacL.mapR (fun C hC => hC.cons fun D hD => (hD.tail).swap) h2
theorem busyM {q1 q2 : Int} {Q : Bool → AH → Prop} (h : Own (MacL c F G W u ls z sps (OneS p box root s regs lent :: l)) A) (hb : regs.length ≤ 64) (hk : ∀ A', Own (MacL c F G W u ls z sps (OneS p box root s regs lent :: l)) A' → Q (lentBusy lent q1 q2 || regBusy regs q1 q2) A') :
    space_one_busy_A (some ⟨p, 0, none⟩) q1 q2 Q A := by
  obtain ⟨lm, h⟩ := OneS.openH (MacL.frontN h)
  exact busy_spec h (by omega) fun A' h' => hk A' (MacL.backN (OneS.closeH h'))
theorem pTag_spec {id : Int} {tg : Nat} {Q : Int → Bool → AH → Prop} (h : Own (PcS tg z :: R) A) (hk : Q ((z.tag.lookup id).getD 0) (z.tag.lookup id).isSome A) : pcid_Tags_Tag_A (some ⟨tg, 0, none⟩) id Q A := by
  obtain ⟨bo, bt, hh⟩ := PcS.openH h
  unfold pcid_Tags_Tag_A
  refine ld_M (i := 0) hh rfl rfl (lk_M (i := 2) hh rfl ?_)
  rw [ivs_lookup]
  cases hl : z.tag.lookup id with
  | none => rw [hl] at hk; exact ⟨0, rfl, hk⟩
  | some n => rw [hl] at hk; exact ⟨n, rfl, hk⟩
/-- Nothing is kept of a space without a tag. -/
theorem forget_none {id page : Int} {Q : AH → Prop} (h : Own (MacL c F G W u ls z sps l) A) (hz : z.tag.lookup id = none) (hk : Q A) : space_Machine_forget_A (some ⟨c.m, 0, none⟩) id page Q A := by
  unfold space_Machine_forget_A space_Machine_forget_G
  refine ld_P (i := 3) h rfl rfl (pTag_spec (MacL.tags h) ?_)
  rw [hz]
  exact bsel_f rfl hk
theorem take_spec {id page : Int} {x : Lf} {y : Reg} {Q : AH → Prop} (h : Own (MacL c F G W u ls z sps (OneS p 0 root s regs lent :: l)) A) (hp : StdP c.N F G) (hR : Rest G W root tab lf tl) (hu : tl.length + 1 ≤ u) (hb : regs.length ≤ 64)
    (hf : findR regs page = some y) (hy : y.k = 0) (hl : lf page = some x) (hxG : G x.frame) (hxt : x.frame ∉ tl) (hz : z.tag.lookup id = none)
    (hk : ∀ (gl : List Int) (W' : Int → Int → Int) (tab' : Tab) (tl' : List Int) A', (∀ y ∈ gl, y ∈ tl) → tl'.length + gl.length = tl.length → StdP c.N (fun y => (F y ∨ y ∈ gl) ∨ y = x.frame) (fun y => (G y ∧ y ∉ gl) ∧ y ≠ x.frame) → Rest (fun y => (G y ∧ y ∉ gl) ∧ y ≠ x.frame) W' root tab' (setL lf page none) tl' → (∀ f, f ∉ tl → W' f = W f) →
      Own (MacL c (fun y => (F y ∨ y ∈ gl) ∨ y = x.frame) (fun y => (G y ∧ y ∉ gl) ∧ y ≠ x.frame) W' (u - gl.length - 1) ls z sps (OneS p 0 root s regs lent :: l)) A' → Q A') :
    space_Machine_take_A (some ⟨c.m, 0, none⟩) id (some ⟨p, 0, none⟩) page Q A := by
  obtain ⟨lm, h⟩ := MacL.openOne h
  unfold space_Machine_take_A space_Machine_take_G
  refine ld_S (i := 7) h rfl rfl ?_
  refine Find_spec (k := 8) h rfl reads_slo (by omega) (fun g => by rw [hf] at g; cases g) fun y' hf' _ _ _ => ?_
  rw [hf] at hf'
  cases hf'
  refine ld_I (i := 7) h rfl rfl (ld_I (i := 7) h rfl rfl (purse_head (k := 3) h rfl ⟨ld_I (i := 7) h rfl rfl rfl, ?_⟩))
  refine sUnmap h hp (by omega) hR (fun g => by rw [hl] at g; cases g) fun x' gl W' tab' tl' A1 hx' hgl hlen hmem hp1 hR1 hW1 h1 => ?_
  rw [hl] at hx'
  cases hx'
  have hxg : x.frame ∉ gl := fun g => hxt (hgl _ g)
  refine ⟨fun A' => ∃ (_ : Unit), StdP c.N (fun y => (F y ∨ y ∈ gl) ∨ y = x.frame) (fun y => (G y ∧ y ∉ gl) ∧ y ≠ x.frame) ∧ Own (MacL c (fun y => (F y ∨ y ∈ gl) ∨ y = x.frame) (fun y => (G y ∧ y ∉ gl) ∧ y ≠ x.frame) W' (u - gl.length - 1) ls z sps (OneS p 0 root s regs lent :: l)) A', fun A2 ⟨_, hp2, h2⟩ => ?_, ?_⟩
  · refine forget_none h2 hz (hk gl W' tab' tl' A2 hgl hlen hp2 (hR1.keep (fun _ _ => rfl) fun f hf => ⟨hR1.inG f hf, fun e => ?_⟩) hW1 h2)
    have := ((hmem f).1 hf).1
    rw [e] at this
    exact hxt this
  · refine bsel_t rfl ?_
    rw [hy]
    refine bsel_t rfl (ld_I (i := 7) h1 rfl rfl (purse_head (k := 3) h1 rfl ?_))
    refine sGive h1 hp1 ⟨hxG, hxg⟩ (by omega) fun A2 hp2 h2 => ⟨(), hp2, MacL.closeOne h2⟩
theorem idx_none {q1 q2 : Int} {Q : Int → AH → Prop} (h : Own l A) (e : l[k]? = some P) (hr : Reads P s 1 (ps.map (.int .i64))) (e2 : l[k2]? = some (At b [.int .i64 q1, .int .i64 q2])) (hall : ∀ x ∈ ps, q1 ≤ x ∧ x < q2) (hb : ps.length ≤ 1000000000) (hk : Q (-1) A) :
    slices_IndexFunc_int_int_A s (some ⟨b, 0, none⟩) Q A := by
  have hl : s.len = ps.length := by have := rd_len h e hr; simp at this; omega
  unfold slices_IndexFunc_int_int_A slices_IndexFunc_int_int_G
  refine ⟨fun x m A' => ∃ v : Nat, x = v ∧ m + v = ps.length ∧ A' = A, ⟨ps.length, 0, rfl, rfl, rfl⟩, ?_⟩
  intro x m A1 ⟨v, e3, e4, e5⟩
  subst e3 e5
  refine bsel_in (fun cc => ?_) fun cc => hk
  have cc : (v : Int) < s.len := of_decide_eq_true cc
  obtain ⟨y, hy⟩ : ∃ y, ps[v]? = some y := ⟨ps[v]'(by omega), by simp⟩
  obtain ⟨hy1, hy2⟩ := hall y (List.mem_of_getElem? hy)
  obtain ⟨bb, o, q3, c0⟩ := rd_cell h e hr (j := v) (v := .int .i64 y) (by simp [hy])
  rw [q3]
  refine inB_in (by omega) cc ⟨y, by rw [add_at, Int.toNat_natCast, Nat.mul_one]; exact c0, ?_⟩
  unfold space_Machine_inside_1_A
  refine ld_I h e2 rfl (bsel_f (by simp; omega) (ld_I h e2 rfl (bsel_f (by simp; omega) ?_)))
  exact ⟨m - 1, by omega, v + 1, by rw [w64] <;> omega, by omega, rfl⟩
theorem rise_all {ps : List Int} (h : ps.Pairwise (· < ·)) (hb : ∀ x ∈ ps, 0 ≤ x ∧ x < 34359738368) (hone : ∀ x ∈ ps, ∀ y ∈ ps, x = y) : ps.length ≤ 1 := by
  match ps, h with
  | [], _ => simp
  | [a], _ => simp
  | a :: b :: r, h =>
    have h1 := hone a (by simp) b (by simp)
    have h2 := (List.pairwise_cons.1 h).1 b (by simp)
    omega
/-- The pages inside a range, where that is all that there are: one. -/
theorem inside_one {page q1 q2 : Int} {Q : Sl → AH → Prop} (h : Own (MacL c F G W u ls z sps (OneS p 0 root s regs lent :: l)) A) (hp : StdP c.N F G) (hR : Rest G W root tab lf tl) (hl : ∀ q, lf q ≠ none ↔ q = page) (hq : q1 ≤ page ∧ page < q2)
    (hk : ∀ s' A', Own (MacL c F G W u ls z sps (OneS p 0 root s regs lent :: SlO s' 1 ([page].map (.int .i64)) :: l)) A' → Q s' A') : space_Machine_inside_A (some ⟨c.m, 0, none⟩) (some ⟨p, 0, none⟩) q1 q2 Q A := by
  obtain ⟨lm, h⟩ := MacL.openOne h
  unfold space_Machine_inside_A space_Machine_inside_G
  refine new_C (cs := [.int .i64 q1, .int .i64 q2]) h fun b A1 h1 => ?_
  have h1 := MacL.backN h1
  refine ld_I (i := 8) h1 rfl rfl (ld_I (i := 8) h1 rfl rfl (purse_head (k := 3) h1 rfl ⟨ld_I (i := 8) h1 rfl rfl rfl, ?_⟩))
  refine RPages_spec h1 hp.inG hR fun s1 ps A2 hs1 hn1 hrise hmem h2 => ?_
  have hps : ps = [page] := by
    have h3 : ∀ x ∈ ps, x = page := fun x hx => (hl x).1 ((hmem x).1 hx)
    have h4 : page ∈ ps := (hmem page).2 ((hl page).2 rfl)
    have h5 : ps.length ≤ 1 := rise_all hrise (fun x hx => by
      have h6 := (hmem x).1 hx
      cases e : lf x with
      | none => exact absurd e h6
      | some w => exact hR.pr x w e) fun x hx y hy => by rw [h3 x hx, h3 y hy]
    match ps, h4, h5 with
    | [a], h4, _ => simp at h4; rw [h4]
  subst hps
  have h2 : Own (SlO s1 1 ([page].map (.int .i64)) :: MacL c F G W u ls z sps (At b [.int .i64 q1, .int .i64 q2] :: oneL p lm 0 root s regs lent ++ l)) A2 := Own.swap h2
  have h3 := MacL.backN h2
  unfold slices_DeleteFunc_int_int_A slices_DeleteFunc_int_int_G
  refine idx_none (k := 7) (k2 := 8) h3 rfl reads_slo rfl (fun x hx => by simp at hx; subst hx; exact hq) (by simp) ?_
  refine bsel_t rfl (hk s1 A2 ?_)
  refine MacL.closeOne (lm := lm) (MacL.mapR (fun C hC => ?_) h3)
  have hC : Own (SlO s1 1 ([page].map (.int .i64)) :: At b [.int .i64 q1, .int .i64 q2] :: At p [.int .i64 0, .int .i64 root, .slice s.a s.len s.cap, .map (some lm)] :: SlO s 6 (regC regs) :: MapI lm .i64 (ivs lent) :: l) C := hC
  have hC2 := hC.cons fun D hD => hD.tail
  exact hC2.swap.cons fun D hD => hD.swap.cons fun E hE => hE.swap
theorem SpUnmap_one {id page q1 q2 : Int} {x : Lf} {y : Reg} {Q : Int → AH → Prop} (h : Own (MacL c F G W u ls z sps (OneS p 0 root s regs lent :: l)) A) (hs : sps.lookup id = some (ptrV p)) (hp : StdP c.N F G) (hR : Rest G W root tab lf tl) (hu : tl.length + 1 ≤ u)
    (hr1 : rightB q1 q2 = true) (hg : goodB regs = true) (hb : regs.length ≤ 64) (hcn : (cutR regs q1 q2).length ≤ 64) (hbz : (lentBusy lent q1 q2 || regBusy regs q1 q2) = false)
    (hl1 : ∀ q, lf q ≠ none ↔ q = page) (hq : q1 ≤ page ∧ page < q2) (hf : findR regs page = some y) (hy : y.k = 0) (hl : lf page = some x) (hxG : G x.frame) (hxt : x.frame ∉ tl) (hz : z.tag.lookup id = none)
    (hk : ∀ (gl : List Int) (W' : Int → Int → Int) (tab' : Tab) (tl' : List Int) (s' : Sl) A', (∀ y ∈ gl, y ∈ tl) → tl'.length + gl.length = tl.length → StdP c.N (fun y => (F y ∨ y ∈ gl) ∨ y = x.frame) (fun y => (G y ∧ y ∉ gl) ∧ y ≠ x.frame) → Rest (fun y => (G y ∧ y ∉ gl) ∧ y ≠ x.frame) W' root tab' (setL lf page none) tl' → (s'.a = none → cutR regs q1 q2 = []) →
      Own (MacL c (fun y => (F y ∨ y ∈ gl) ∨ y = x.frame) (fun y => (G y ∧ y ∉ gl) ∧ y ≠ x.frame) W' (u - gl.length - 1) ls z sps (OneS p 0 root s' (cutR regs q1 q2) lent :: l)) A' → Q 0 A') :
    space_Machine_Unmap_A (some ⟨c.m, 0, none⟩) id q1 q2 Q A := by
  unfold space_Machine_Unmap_A space_Machine_Unmap_G
  refine ld_M (i := 3) h rfl rfl (lk_M (i := 4) h rfl ?_)
  rw [hs]
  refine ⟨some ⟨p, 0, none⟩, rfl, bsel_f rfl ?_⟩
  obtain ⟨lm, h0⟩ := MacL.openOne h
  refine ld_S (i := 7) h0 rfl rfl ?_
  refine Cut_spec (k := 8) h0 rfl reads_slo hr1 hg hcn fun s7 A1 hs7 h1 => bsel_f rfl ?_
  have h1 : Own (MacL c F G W u ls z sps (OneS p 0 root s regs lent :: SlO s7 6 (regC (cutR regs q1 q2)) :: l)) A1 := MacL.mapR (fun C hC => (hC.cons fun D hD => OneS.closeH hD).swap) (MacL.backN h1)
  refine busyM h1 hb fun A2 h2 => ?_
  rw [hbz]
  refine bsel_f rfl ?_
  refine inside_one h2 hp hR hl1 hq fun s12 A3 h3 => ?_
  refine ⟨fun v m A' => (v = 0 ∧ m = 1 ∧ A' = A3) ∨ (v = 1 ∧ m = 0 ∧ ∃ (gl : List Int) (W' : Int → Int → Int) (tab' : Tab) (tl' : List Int), (∀ y ∈ gl, y ∈ tl) ∧ tl'.length + gl.length = tl.length ∧ StdP c.N (fun y => (F y ∨ y ∈ gl) ∨ y = x.frame) (fun y => (G y ∧ y ∉ gl) ∧ y ≠ x.frame) ∧ Rest (fun y => (G y ∧ y ∉ gl) ∧ y ≠ x.frame) W' root tab' (setL lf page none) tl' ∧
      Own (MacL c (fun y => (F y ∨ y ∈ gl) ∨ y = x.frame) (fun y => (G y ∧ y ∉ gl) ∧ y ≠ x.frame) W' (u - gl.length - 1) ls z sps (OneS p 0 root s regs lent :: SlO s12 1 ([page].map (.int .i64)) :: SlO s7 6 (regC (cutR regs q1 q2)) :: l)) A'), ⟨1, .inl ⟨rfl, rfl, rfl⟩⟩, ?_⟩
  have hl12 : s12.len = 1 := by have := rd_len (i := 8) h3 rfl reads_slo; simpa using this
  intro v m A4 hv
  rcases hv with ⟨e1, e2, e3⟩ | ⟨e1, e2, gl, W', tab', tl', g1, g2, g3, g4, h4⟩
  · subst e1 e2 e3
    refine bsel_t (by rw [hl12]; rfl) ?_
    obtain ⟨a, q3, q4⟩ := rd_i (ids := [page]) (v := 0) (k := 8) h3 rfl reads_slo rfl
    rw [q3]
    refine inB_in (by omega) (by omega) (q4 _ ?_)
    exact take_spec h3 hp hR hu hb hf hy hl hxG hxt hz fun gl W' tab' tl' A5 g1 g2 g3 g4 _ h5 => ⟨0, by omega, .inr ⟨rfl, rfl, gl, W', tab', tl', g1, g2, g3, g4, h5⟩⟩
  · subst e1 e2
    refine bsel_f (by rw [hl12]; rfl) ?_
    have h4 := MacL.mapR (fun C hC => hC.cons fun D hD => hD.tail) h4
    exact set_regs h4 fun A5 h5 => hk gl W' tab' tl' s7 A5 g1 g2 g3 g4 hs7 h5
theorem MacL.free {Q : Int → AH → Prop} (h : Own (MacL c F G W u ls z sps l) A) (hk : Q (c.N - 1 - u) A) : buddy_Buddy_Free_A (some ⟨c.b, 0, none⟩) Q A := sFree h hk
end Go.Dn
/- The law SpaceMaps: pages cost nothing until they are used, and give back what they cost. -/
namespace Go.Dn

variable {A : AH} {l R : List SP} {G : Int → Prop} {W : Int → Int → Int} {root : Int} {tab : Tab} {lf : Int → Option Lf} {tl : List Int} {y : Reg} {p : Int}
theorem Rest.bare (h : Rest G W root tab lf tl) (hl : ∀ q, lf q = none) : tl = [root] := by
  have h1 : ∀ f ∈ tl, f = root := fun f hf => by
    obtain ⟨k, q, e⟩ := (h.mem f).1 hf
    rcases Nat.eq_zero_or_pos k with g | g
    · subst g
      exact ((h.T.root q f).1 e).2
    · obtain ⟨p, x, e2, _⟩ := h.low k q f e g
      rw [hl p] at e2; cases e2
  have h2 : root ∈ tl := (h.mem root).2 ⟨0, 0, (h.T.root 0 root).2 ⟨rfl, rfl⟩⟩
  match tl, h.nd, h1, h2 with
  | [a], _, h1, _ => rw [h1 a (by simp)]
  | a :: b :: r, hn, h1, _ =>
    have e1 := h1 a (by simp)
    have e2 := h1 b (by simp)
    rw [List.nodup_cons] at hn
    exact absurd (by rw [e1, e2]; simp) hn.1
theorem good_one (h0 : 0 ≤ y.a) (h1 : y.a < y.b) (h2 : y.b ≤ 34359738368) : goodB [y] = true := by
  unfold goodB
  rw [decide_eq_true (by simp), Bool.true_and, List.all_eq_true]
  intro v hv
  have hv : v = 0 := by simp at hv; exact hv
  subst hv
  have : okR6 [y] 0 = okP none y := rfl
  rw [this]
  unfold okP
  rw [decide_eq_false (by omega), decide_eq_false (by omega), decide_eq_false (by omega)]
  rfl
theorem cut_all (h : y.a < y.b) : cutR [y] y.a y.b = [] := by
  have e : cut1 y.a y.b y = [] := by
    unfold cut1
    have e1 : (inR6 y y.a y.b).b = y.b := by simp [inR6]
    have e2 : (inR6 y y.a y.b).a = y.a := by simp [inR6]
    have e3 : (aheadR y y.a).b = y.a := by simp [aheadR, h]
    have e4 : (behR y y.b).a = y.b := by simp [behR]; omega
    rw [e1, e2, e3, e4, if_neg (by omega), if_neg (by omega), if_neg (by omega)]
    rfl
  unfold cutR
  rw [List.flatMap_cons, e]
  rfl
theorem find_one (h : y.a ≤ p) (h2 : p < y.b) : findR [y] p = some y := by
  unfold findR
  rw [List.find?_cons, decide_eq_true h, decide_eq_true h2]
  rfl
end Go.Dn
