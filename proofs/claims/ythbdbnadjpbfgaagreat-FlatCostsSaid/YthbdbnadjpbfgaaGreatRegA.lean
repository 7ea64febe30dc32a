/- What the proof stands on: Reg, Reg2, Cut, RegA. -/
import Derived.Test.YthbdbnadjpbfgaaGreatG
import Derived.Test.YthbdbnadjpbfgaaGreatBas
/- Regions of pages: lists of them. -/
namespace Go.Dn

structure Reg where
  a : Int
  b : Int
  w : Bool
  u : Bool
  x : Bool
  k : Int
def Reg.cells (r : Reg) : List Value := [.int .i64 r.a, .int .i64 r.b, .bool r.w, .bool r.u, .bool r.x, .int .i64 r.k]
def regC (L : List Reg) : List Value := L.flatMap Reg.cells
variable {A : AH} {l R : List SP} {P : SP} {i k v : Nat} {s : Sl} {L : List Reg} {y : Reg}
theorem regC_len : ∀ L : List Reg, (regC L).length = L.length * 6
  | [] => rfl
  | y :: L => by
    have := regC_len L
    unfold regC at this ⊢
    rw [List.flatMap_cons, List.length_append, this, List.length_cons]; simp [Reg.cells]; omega
theorem regC_app (a b : List Reg) : regC (a ++ b) = regC a ++ regC b := List.flatMap_append
theorem regC_at : ∀ {L : List Reg} {v : Nat} {y : Reg} {c : Nat} {z : Value}, L[v]? = some y → y.cells[c]? = some z → (regC L)[v * 6 + c]? = some z
  | [], v, a, c, x, h, _ => by simp at h
  | b :: r, 0, a, c, x, h, hc => by
    simp at h; subst h
    have hlt : c < 6 := (List.getElem?_eq_some_iff.1 hc).1
    unfold regC
    rw [List.flatMap_cons, List.getElem?_append_left (by simp [Reg.cells]; omega), Nat.zero_mul, Nat.zero_add]
    exact hc
  | b :: r, v + 1, a, c, x, h, hc => by
    have h : r[v]? = some a := by simpa using h
    unfold regC
    rw [List.flatMap_cons, List.getElem?_append_right (by simp [Reg.cells]; omega)]
    have : (v + 1) * 6 + c - b.cells.length = v * 6 + c := by simp [Reg.cells]; omega
    rw [this]
    exact regC_at h hc
theorem regC_one {v : Value} (h : v ∈ regC L) : v.oneCell' = true := by
  obtain ⟨d, _, hd⟩ := List.mem_flatMap.1 h
  simp [Reg.cells] at hd
  rcases hd with rfl | rfl | rfl | rfl | rfl | rfl <;> rfl
theorem regC_nil {L : List Reg} (h : regC L = []) : L = [] := by
  have := regC_len L
  rw [h] at this
  exact List.length_eq_zero_iff.1 (by simp at this; omega)
theorem rd_reg_len (h : Own l A) (e : l[k]? = some P) (hr : Reads P s 6 (regC L)) : s.len = L.length := by
  have := rd_len h e hr
  rw [regC_len] at this
  omega
theorem rd_reg (h : Own l A) (e : l[k]? = some P) (hr : Reads P s 6 (regC L)) (hv : L[v]? = some y) :
    ∃ a, s.a = some a ∧ ∀ K : Int → Int → Bool → Bool → Bool → Int → Prop, K y.a y.b y.w y.u y.x y.k →
      aI .i64 (Addr.add a (Int.toNat (v : Int) * 6)) A fun n0 => aI .i64 (Addr.add (Addr.add a (Int.toNat (v : Int) * 6)) 1) A fun n1 => aB (Addr.add (Addr.add a (Int.toNat (v : Int) * 6)) 2) A fun b2 =>
        aB (Addr.add (Addr.add a (Int.toNat (v : Int) * 6)) 3) A fun b3 => aB (Addr.add (Addr.add a (Int.toNat (v : Int) * 6)) 4) A fun b4 => aI .i64 (Addr.add (Addr.add a (Int.toNat (v : Int) * 6)) 5) A fun n5 => K n0 n1 b2 b3 b4 n5 := by
  obtain ⟨bb, o, q0, c0⟩ := rd_cell h e hr (j := v * 6 + 0) (regC_at hv (c := 0) rfl)
  refine ⟨_, q0, fun K hK => ?_⟩
  have hc : ∀ c z, y.cells[c]? = some z → cellA A ⟨bb, o + v * 6 + c, none⟩ = some z := fun c z hz => by
    obtain ⟨b2, o2, q1, c1⟩ := rd_cell h e hr (j := v * 6 + c) (regC_at hv hz)
    rw [q0] at q1
    cases q1
    rw [Nat.add_assoc]
    exact c1
  simp only [add_at, Int.toNat_natCast]
  exact ⟨_, by simpa using hc 0 _ rfl, _, hc 1 _ rfl, _, hc 2 _ rfl, _, hc 3 _ rfl, _, hc 4 _ rfl, _, hc 5 _ rfl, hK⟩
theorem push_reg {t : TypeId} {K : Sl → AP} (h : Own (SlO s 6 (regC L) :: R) A) (hs : s.a = none → L = []) (hb : L.length ≤ 1000000)
    (hk : ∀ s' A', s'.a ≠ none → Own (SlO s' 6 (regC (L ++ [y])) :: R) A' → K s' A') :
    newA A (.cells #[.int .i64 y.a, .int .i64 y.b, .bool y.w, .bool y.u, .bool y.x, .int .i64 y.k] t) fun b h2 =>
      apA 6 32 #[(.int .i64 (0 : Int)), (.int .i64 (0 : Int)), (.bool false), (.bool false), (.bool false), (.int .i64 (0 : Int))] t s (Sl.mk (some (Addr.mk b 0 none)) 1 1) h2 K := by
  have hl : s.len = L.length := by
    obtain ⟨B, _, hB⟩ := h.sat
    have := hB.1.1
    rw [regC_len] at this
    omega
  refine new_C (cs := y.cells) h fun b A1 h1 => ?_
  have h1 := h1.swap
  refine ap_reads (i := 0) h1 rfl (reads_at (n := 1) (sz := 6) (cs := y.cells) (rest := []) rfl) (fun g => nomatch g) (fun g => by rw [hs g]; rfl) rfl (fun v hv => ?_) ⟨by simp only [hl]; omega, by simp only [hl]; omega⟩ fun s' A2 j1 j2 h2 => ?_
  · exact regC_one (L := [y]) (by simpa [regC] using hv)
  · refine hk s' A2 (fun g => ?_) ?_
    · have := j2 g
      simp [Reg.cells] at this
    · rw [regC_app]
      have : regC [y] = y.cells := by simp [regC]
      rw [this]
      exact Own.cons (fun C hC => hC.tail) h2
/-- Do two regions, one behind the other, make one? -/
def joinsB (p q : Reg) : Bool := p.b == q.a && ((p.w == q.w && (p.u == q.u && (p.x == q.x && true))) && p.k == q.k)
theorem joins_spec {p q : Reg} {Q : Bool → AH → Prop} (hk : Q (joinsB p q) A) : region_joins_A p.a p.b p.w p.u p.x p.k q.a q.b q.w q.u q.x q.k Q A := by
  unfold region_joins_A
  unfold joinsB at hk
  refine bsel_in (fun g => bsel_in (fun g2 => ?_) fun g2 => ?_) fun g => ?_
  · rw [g, g2] at hk; exact hk
  · rw [g, g2] at hk; exact hk
  · rw [g] at hk; exact hk
def rightB (a b : Int) : Bool := decide (a ≥ 0) && (decide (b > a) && (decide (b ≤ 34359738368) && decide (b - a ≤ 65536)))
theorem right_spec {a b : Int} {Q : Bool → AH → Prop} (hk : Q (rightB a b) A) : region_right_A a b Q A := by
  unfold region_right_A
  unfold rightB at hk
  refine bsel_in (fun g => bsel_in (fun g2 => bsel_in (fun g3 => ?_) fun g3 => ?_) fun g2 => ?_) fun g => ?_
  · have g' := of_decide_eq_true g
    have g2' := of_decide_eq_true g2
    have g3' := of_decide_eq_true g3
    rw [w64 (by omega) (by omega)]
    rw [g, g2, g3] at hk; exact hk
  · rw [g, g2, g3] at hk; exact hk
  · rw [g, g2] at hk; exact hk
  · rw [g] at hk; exact hk
/-- The regions that rise, those that make one as one. -/
def mrgR (out : List Reg) (r : Reg) : List Reg := match out.getLast? with
  | some q => if joinsB q r = true then out.dropLast ++ [{ q with b := r.b }] else out ++ [r]
  | none => [r]
def mergedR (L : List Reg) : List Reg := L.foldl mrgR []
theorem mrgR_len (out : List Reg) (r : Reg) : (mrgR out r).length ≤ out.length + 1 := by
  unfold mrgR
  split
  · split <;> simp <;> omega
  · simp
theorem foldl_take {α β : Type} (f : β → α → β) (z : β) (L : List α) {v : Nat} {y : α} (h : L[v]? = some y) : (L.take (v + 1)).foldl f z = f ((L.take v).foldl f z) y := by
  rw [take_succ h, List.foldl_append]; rfl
theorem merged_le : ∀ (L : List Reg), (mergedR L).length ≤ L.length := by
  intro L
  unfold mergedR
  have : ∀ (L : List Reg) (o : List Reg), (L.foldl mrgR o).length ≤ o.length + L.length := by
    intro L
    induction L with
    | nil => intro o; simp
    | cons y L ih =>
      intro o
      have h1 := ih (mrgR o y)
      have h2 := mrgR_len o y
      simp only [List.foldl_cons, List.length_cons]
      omega
  simpa using this L []
theorem regC_last {o : List Reg} {q r : Reg} (n : Int) : (regC (o ++ [q])).set (o.length * 6 + 1) (.int .i64 n) = regC (o ++ [{ q with b := n }]) := by
  rw [regC_app, regC_app, List.set_append_right _ _ (by rw [regC_len]; omega), regC_len, show o.length * 6 + 1 - o.length * 6 = 1 by omega]
  rfl
theorem merged_spec {Q : Sl → AH → Prop} (h : Own l A) (e : l[k]? = some P) (hr : Reads P s 6 (regC L)) (hb : L.length ≤ 100000)
    (hk : ∀ s' A', (s'.a = none → mergedR L = []) → Own (SlO s' 6 (regC (mergedR L)) :: l) A' → Q s' A') : region_merged_A s Q A := by
  have hl := rd_reg_len h e hr
  unfold region_merged_A region_merged_G
  refine ⟨fun o x m A' => ∃ v : Nat, x = v ∧ m + v = L.length ∧ (o.a = none → mergedR (L.take v) = []) ∧ Own (SlO o 6 (regC (mergedR (L.take v))) :: l) A', ⟨L.length, 0, rfl, rfl, fun _ => rfl,
    ⟨fun _ => none, A, fun _ => .inl rfl, (fun _ _ e => nomatch e), Sub.refl A, SlO.nil, h⟩⟩, ?_⟩
  intro o x m A1 ⟨v, e1, e2, ho, h1⟩
  subst e1
  refine bsel_in (fun c => ?_) fun c => ?_
  · have c : (v : Int) < s.len := of_decide_eq_true c
    obtain ⟨y, hy⟩ : ∃ y, L[v]? = some y := ⟨L[v]'(by omega), by simp⟩
    have hst : mergedR (L.take (v + 1)) = mrgR (mergedR (L.take v)) y := foldl_take _ _ _ hy
    have hml : (mergedR (L.take v)).length ≤ v := Nat.le_trans (merged_le _) (by simp; omega)
    refine ⟨fun o' A' => (o'.a = none → mergedR (L.take (v + 1)) = []) ∧ Own (SlO o' 6 (regC (mergedR (L.take (v + 1)))) :: l) A', fun o' A2 ⟨f1, f2⟩ => ⟨m - 1, by omega, v + 1, by rw [w64] <;> omega, by omega, f1, f2⟩, ?_⟩
    obtain ⟨a, q1, q2⟩ := rd_reg (k := k + 1) h1 (by simpa using e) hr hy
    rw [q1]
    refine inB_in (by omega) c (q2 _ ?_)
    have hol : o.len = (mergedR (L.take v)).length := by
      obtain ⟨B, _, hB⟩ := h1.sat
      have := hB.1.1
      rw [regC_len] at this
      omega
    rw [hst]
    generalize mergedR (L.take v) = out at *
    refine bsel_in (fun g => ?_) fun g => ?_
    · have g : (o.len : Int) > 0 := of_decide_eq_true g
      have e1 : IntKind.wrap .i64 ((Int.ofNat o.len) - (1 : Int)) = ((out.length - 1 : Nat) : Int) := by
        show IntKind.wrap .i64 ((o.len : Int) - 1) = _
        rw [w64] <;> omega
      rw [e1]
      obtain ⟨q, hq⟩ : ∃ q, out[out.length - 1]? = some q := ⟨out[out.length - 1]'(by omega), by simp⟩
      have hlast : out.getLast? = some q := by rw [List.getLast?_eq_getElem?]; exact hq
      have hdl : out = out.dropLast ++ [q] := by
        have hne : out ≠ [] := fun z => by rw [z] at hlast; simp at hlast
        have := List.dropLast_concat_getLast hne
        rw [List.getLast?_eq_some_getLast hne] at hlast
        rw [← Option.some.inj hlast]
        exact this.symm
      obtain ⟨a2, p1, p2⟩ := rd_reg (k := 0) h1 rfl reads_slo hq
      rw [p1]
      refine inB_in (by omega) (by omega) (p2 _ (joins_spec ?_))
      have hm : mrgR out y = if joinsB q y = true then out.dropLast ++ [{ q with b := y.b }] else out ++ [y] := by unfold mrgR; rw [hlast]
      refine bsel_in (fun j => ?_) fun j => ?_
      · rw [hm, if_pos j]
        refine inB_in (by omega) (by omega) ?_
        -- the last one's end is moved
        obtain ⟨B, C, d1, d2, d3, d4, d5⟩ := h1
        have hne : ¬ o.cap = 0 := by have := d4.1.2; omega
        have h1' : Own ((fun B => ∃ b rest, o.a = some ⟨b, 0, none⟩ ∧ ((o.len * 6 = (regC out).length ∧ o.len ≤ o.cap) ∧ (regC out ++ rest).length = o.cap * 6) ∧ At b (regC out ++ rest) B) :: l) A1 := by
          rcases d4.2 with g0 | ⟨b, rest, g1, g2, g3⟩
          · exact absurd g0 hne
          · exact ⟨B, C, d1, d2, d3, ⟨b, rest, g1, ⟨d4.1, g2⟩, g3⟩, d5⟩
        obtain ⟨b, h1'⟩ := Own.ex h1'
        obtain ⟨rest, h1'⟩ := Own.ex h1'
        obtain ⟨ha, h1'⟩ := Own.pure h1'
        obtain ⟨⟨hlen, hroom⟩, h1'⟩ := Own.pure h1'
        rw [ha] at p1
        cases p1
        simp only [add_at, Nat.zero_add, Int.toNat_natCast]
        have hrl := regC_len out
        refine st_C (i := 0) h1' rfl (by rw [List.getElem?_append_left (by omega)]; simp; omega) rfl fun A2 h2 => ?_
        have h2 : Own (At b ((regC out ++ rest).set ((out.length - 1) * 6 + 1) (.int .i64 y.b)) :: l) A2 := h2
        rw [List.set_append_left _ _ (by omega)] at h2
        have hcl : (regC out).set ((out.length - 1) * 6 + 1) (.int .i64 y.b) = regC (out.dropLast ++ [{ q with b := y.b }]) := by
          have hd : out.length - 1 = out.dropLast.length := by simp
          conv => lhs; rw [hdl]
          rw [show (out.dropLast ++ [q]).length - 1 = out.dropLast.length by simp]
          exact regC_last (r := y) y.b
        rw [hcl] at h2
        have hl2 : (regC (out.dropLast ++ [{ q with b := y.b }])).length = (regC out).length := by
          rw [regC_len, regC_len]
          have := congrArg List.length hdl
          simp at this ⊢; omega
        refine ⟨fun z => (by rw [ha] at z; cases z), Own.imp (fun B hB => ⟨⟨by rw [hl2]; exact hlen.1, hlen.2⟩, .inr ⟨b, rest, ha, by rw [List.length_append, hl2, ← List.length_append]; exact hroom, hB⟩⟩) h2⟩
      · have j : ¬ joinsB q y = true := by rw [j]; simp
        rw [hm, if_neg j]
        exact push_reg h1 ho (by omega) fun s' A2 j1 h2 => ⟨fun z => absurd z j1, h2⟩
    · have g : ¬ (o.len : Int) > 0 := of_decide_eq_false g
      have h0 : out = [] := List.length_eq_zero_iff.1 (by omega)
      subst h0
      exact push_reg h1 ho (by simp) fun s' A2 j1 h2 => ⟨fun z => absurd z j1, h2⟩
  · have c : ¬(v : Int) < s.len := of_decide_eq_false c
    have hv : v = L.length := by omega
    subst hv
    rw [List.take_length] at ho h1
    exact hk o A1 ho h1
end Go.Dn
/- Regions: are they good, where is a page, the first region. -/
namespace Go.Dn

variable {A : AH} {l R : List SP} {P : SP} {i k v : Nat} {s : Sl} {L : List Reg} {y : Reg}
/-- What is asked of a region, behind another one or none. -/
def okP (o : Option Reg) (y : Reg) : Bool := !decide (y.a < 0) && (!decide (y.b ≤ y.a) && (!decide (y.b > 34359738368) && match o with
  | none => true
  | some q => !decide (q.b > y.a) && !joinsB q y))
def okR6 (L : List Reg) (v : Nat) : Bool := match L[v]? with
  | none => true
  | some y => okP (if v = 0 then none else L[v - 1]?) y
theorem Own.nil6 {sz : Nat} (h : Own l A) : Own (SlO Sl.nil sz [] :: l) A := ⟨fun _ => none, A, fun _ => .inl rfl, (fun _ _ e => nomatch e), Sub.refl A, SlO.nil, h⟩
def goodB (L : List Reg) : Bool := decide (L.length ≤ 64) && (List.range L.length).all (okR6 L)
theorem good_no {v : Nat} (hv : v < L.length) (h : okR6 L v = false) : goodB L = false := by
  unfold goodB
  rw [Bool.and_eq_false_iff]
  right
  rw [List.all_eq_false]
  exact ⟨v, by simpa using hv, by rw [h]; simp⟩
theorem Good_spec {Q : Bool → AH → Prop} (h : Own l A) (e : l[k]? = some P) (hr : Reads P s 6 (regC L)) (hk : Q (goodB L) A) : region_Good_A s Q A := by
  have hl := rd_reg_len h e hr
  unfold region_Good_A region_Good_G
  refine bsel_in (fun g => ?_) fun g => ?_
  · have g : (s.len : Int) > 64 := of_decide_eq_true g
    have : goodB L = false := by unfold goodB; rw [decide_eq_false (by omega)]; rfl
    rwa [this] at hk
  have g : ¬ (s.len : Int) > 64 := of_decide_eq_false g
  refine ⟨fun x m A' => ∃ v : Nat, x = v ∧ m + v = L.length ∧ A' = A ∧ ∀ t, t < v → okR6 L t = true, ⟨L.length, 0, rfl, rfl, rfl, fun t ht => by omega⟩, ?_⟩
  intro x m A1 ⟨v, e1, e2, e3, e4⟩
  subst e1 e3
  refine bsel_in (fun c => ?_) fun c => ?_
  · have c : (v : Int) < s.len := of_decide_eq_true c
    obtain ⟨y, hy⟩ : ∃ y, L[v]? = some y := ⟨L[v]'(by omega), by simp⟩
    obtain ⟨a, q1, q2⟩ := rd_reg h e hr hy
    rw [q1]
    refine inB_in (by omega) c (q2 _ ?_)
    have no : okR6 L v = false → Q false A1 := fun z => by rw [good_no (by omega) z] at hk; exact hk
    have next : okR6 L v = true → ∃ m3, m3 < m ∧ ∃ v' : Nat, IntKind.wrap .i64 ((v : Int) + 1) = v' ∧ m3 + v' = L.length ∧ A1 = A1 ∧ ∀ t, t < v' → okR6 L t = true := fun z =>
      ⟨m - 1, by omega, v + 1, by rw [w64] <;> omega, by omega, rfl, fun t ht => by
        rcases Nat.lt_or_eq_of_le (Nat.le_of_lt_succ ht) with q | q
        · exact e4 t q
        · subst q; exact z⟩
    have hdef : okR6 L v = okP (if v = 0 then none else L[v - 1]?) y := by unfold okR6; rw [hy]
    unfold okP at hdef
    refine bsel_in (fun g1 => no (by rw [hdef, g1]; rfl)) fun g1 => bsel_in (fun g2 => no (by rw [hdef, g1, g2]; rfl)) fun g2 => bsel_in (fun g3 => no (by rw [hdef, g1, g2, g3]; rfl)) fun g3 => ?_
    refine bsel_in (fun g4 => ?_) fun g4 => ?_
    · have g4 : (v : Int) > 0 := of_decide_eq_true g4
      obtain ⟨u, rfl⟩ : ∃ u, v = u + 1 := ⟨v - 1, by omega⟩
      have ew : IntKind.wrap .i64 (((u + 1 : Nat) : Int) - 1) = (u : Int) := by rw [w64] <;> omega
      rw [ew]
      obtain ⟨q, hq⟩ : ∃ q, L[u]? = some q := ⟨L[u]'(by omega), by simp⟩
      obtain ⟨a2, p1, p2⟩ := rd_reg h e hr hq
      have ea : a2 = a := by rw [p1] at q1; exact Option.some.inj q1
      subst ea
      rw [if_neg (by omega), Nat.add_sub_cancel, hq] at hdef
      simp only at hdef
      refine inB_in (by omega) (by omega) ?_
      have hb1 : aI .i64 (Addr.add (Addr.add a2 (Int.toNat (u : Int) * 6)) 1) A1 fun n => n = q.b := by
        have := p2 (fun _ n _ _ _ _ => n = q.b) rfl
        obtain ⟨_, _, n, h1, _, _, _, _, _, _, _, _, h2⟩ := this
        exact ⟨n, h1, h2⟩
      obtain ⟨n, hb1, hb2⟩ := hb1
      refine ⟨n, hb1, ?_⟩
      rw [hb2]
      refine bsel_in (fun g5 => no (by rw [hdef, g1, g2, g3, g5]; rfl)) fun g5 => ?_
      refine inB_in (by omega) (by omega) (p2 _ (joins_spec ?_))
      refine bsel_in (fun g6 => no (by rw [hdef, g1, g2, g3, g5, g6]; rfl)) fun g6 => next (by rw [hdef, g1, g2, g3, g5, g6]; rfl)
    · have g4 : ¬ (v : Int) > 0 := of_decide_eq_false g4
      have hv : v = 0 := by omega
      subst hv
      exact next (by rw [hdef, if_pos rfl, g1, g2, g3]; rfl)
  · have c : ¬(v : Int) < s.len := of_decide_eq_false c
    have : goodB L = true := by
      unfold goodB
      rw [decide_eq_true (by omega), Bool.true_and, List.all_eq_true]
      intro t ht
      exact e4 t (by have : t < L.length := by simpa using ht
                     omega)
    rwa [this] at hk
/-- The region of a page. -/
def findR (L : List Reg) (p : Int) : Option Reg := L.find? fun r => decide (r.a ≤ p) && decide (p < r.b)
theorem Find_spec {p : Int} {Q : Int → Int → Bool → Bool → Bool → Int → Bool → AH → Prop} (h : Own l A) (e : l[k]? = some P) (hr : Reads P s 6 (regC L)) (hb : L.length ≤ 100000)
    (h0 : findR L p = none → Q 0 0 false false false 0 false A) (h1 : ∀ y, findR L p = some y → y ∈ L → y.a ≤ p → p < y.b → Q y.a y.b y.w y.u y.x y.k true A) : region_Find_A s p Q A := by
  have hl := rd_reg_len h e hr
  unfold region_Find_A
  refine ⟨fun x c6 c7 c8 c9 c10 c11 m A' => ∃ v : Nat, x = v ∧ m + v = L.length ∧ A' = A ∧ findR L p = findR (L.drop v) p ∧ c6 = 0 ∧ c7 = 0 ∧ c8 = false ∧ c9 = false ∧ c10 = false ∧ c11 = 0, ⟨L.length, 0, rfl, rfl, rfl, by simp, rfl, rfl, rfl, rfl, rfl, rfl⟩, ?_⟩
  intro x c6 c7 c8 c9 c10 c11 m A1 ⟨v, e1, e2, e3, e4, z1, z2, z3, z4, z5, z6⟩
  subst e1 e3 z1 z2 z3 z4 z5 z6
  refine bsel_in (fun c => ?_) fun c => ?_
  · have c : (v : Int) < s.len := of_decide_eq_true c
    obtain ⟨y, hy⟩ : ∃ y, L[v]? = some y := ⟨L[v]'(by omega), by simp⟩
    obtain ⟨a, q1, q2⟩ := rd_reg h e hr hy
    rw [q1]
    refine inB_in (by omega) c (q2 _ ?_)
    have hd : L.drop v = y :: L.drop (v + 1) := by
      have hlt := (List.getElem?_eq_some_iff.1 hy).1
      rw [List.drop_eq_getElem_cons hlt]
      rw [List.getElem?_eq_getElem hlt] at hy
      rw [Option.some.inj hy]
    have next : (decide (y.a ≤ p) && decide (p < y.b)) = false → ∃ m3, m3 < m ∧ ∃ v' : Nat, IntKind.wrap .i64 ((v : Int) + 1) = v' ∧ m3 + v' = L.length ∧ A1 = A1 ∧ findR L p = findR (L.drop v') p ∧ (0 : Int) = 0 ∧ (0 : Int) = 0 ∧ false = false ∧ false = false ∧ false = false ∧ (0 : Int) = 0 := fun z =>
      ⟨m - 1, by omega, v + 1, by rw [w64] <;> omega, by omega, rfl, by rw [e4, hd]; unfold findR; rw [List.find?_cons, z], rfl, rfl, rfl, rfl, rfl, rfl⟩
    refine bsel_in (fun g => bsel_in (fun g2 => ?_) fun g2 => next (by rw [g, g2]; rfl)) fun g => next (by rw [g]; rfl)
    refine h1 y ?_ (List.mem_of_getElem? hy) (of_decide_eq_true g) (of_decide_eq_true g2)
    rw [e4, hd]
    unfold findR
    rw [List.find?_cons, g, g2]; rfl
  · have c : ¬(v : Int) < s.len := of_decide_eq_false c
    refine h0 ?_
    rw [e4, List.drop_eq_nil_of_le (by omega)]
    rfl
theorem goodB_nil : goodB [] = true := rfl
/-- The first region of a list. -/
theorem Add_nil {Q : Sl → Int → AH → Prop} (h : Own l A) (hb : rightB y.a y.b = true) (hk : ∀ s A', s.a ≠ none → Own (SlO s 6 (regC [y]) :: l) A' → Q s 0 A') : region_Add_A Sl.nil y.a y.b y.w y.u y.x y.k Q A := by
  unfold region_Add_A region_Add_G
  refine right_spec ?_
  rw [hb]
  refine bsel_f rfl ?_
  have h0 := h.nil6 (sz := 6)
  refine Good_spec (k := 0) (L := []) h0 rfl reads_slo ?_
  refine bsel_f rfl ?_
  refine ⟨fun a x m A' => a = 0 ∧ x = 0 ∧ A' = A, ⟨0, rfl, rfl, rfl⟩, ?_⟩
  intro a x m A1 ⟨e1, e2, e3⟩
  subst e1 e2 e3
  refine bsel_f rfl ?_
  have rest : ∀ (b : Nat) (A2 : AH), Own (At b y.cells :: l) A2 → slices_Insert_region_List_region_Region_A Sl.nil 0 (Sl.mk (some (Addr.mk b 0 none)) 1 1) (fun s25 h26 => region_merged_A s25 (fun s27 h28 => region_fits_A s27 (fun s29 n30 h31 => Q s29 n30 h31) h28) h26) A2 := fun b A2 h2 => by
    unfold slices_Insert_region_List_region_Region_A slices_Insert_region_List_region_Region_G
    refine inB_in (by omega) (by simp [Sl.nil]) (bsel_f rfl (bsel_t rfl ?_))
    have h3 := h2.nil6 (sz := 6)
    refine ap_reads (i := 0) (c1 := []) h3 rfl (reads_at (n := 1) (sz := 6) (cs := y.cells) (rest := []) rfl) (fun g => nomatch g) (fun g => rfl) rfl (fun v hv => ?_) ⟨by simp [Sl.nil], by simp [Sl.nil]⟩ fun s' A3 j1 j2 h4 => ?_
    · exact regC_one (L := [y]) (by simpa [regC] using hv)
    have h4 : Own (SlO s' 6 (regC [y]) :: At b (y.cells ++ []) :: l) A3 := by
      have : regC [y] = [] ++ y.cells := by simp [regC]
      rw [this]; simpa using h4
    refine merged_spec (k := 0) h4 rfl reads_slo (by simp) fun s5 A4 hs5 h5 => ?_
    have hm : mergedR [y] = [y] := rfl
    rw [hm] at hs5 h5
    unfold region_fits_A
    have hl5 : s5.len = 1 := rd_reg_len (k := 0) h5 rfl reads_slo
    refine bsel_f (by simp [hl5]) (hk s5 A4 (fun g => by have := hs5 g; simp at this) (h5.cons fun C hC => hC.tail.tail))
  refine ⟨?_, ?_⟩
  · unfold slices_Clone_region_List_region_Region_A
    exact bsel_t rfl (new_C (cs := y.cells) h fun b A2 h2 => rest b A2 h2)
  · refine new_C (cs := y.cells) h fun b A2 h2 => ?_
    unfold slices_Clone_region_List_region_Region_A
    exact bsel_t rfl (rest b A2 h2)
end Go.Dn
/- Regions: what is left when pages go. -/
namespace Go.Dn

variable {A : AH} {l R : List SP} {P : SP} {i k v b : Nat} {s : Sl} {L : List Reg} {y y' : Reg} {p q : Int}
theorem rd6 {K : Int → Int → Bool → Bool → Bool → Int → Prop} (h : Own l A) (e : l[i]? = some (At b y.cells)) (hK : K y.a y.b y.w y.u y.x y.k) :
    aI .i64 ⟨b, 0, none⟩ A fun n0 => aI .i64 ⟨b, 1, none⟩ A fun n1 => aB ⟨b, 2, none⟩ A fun b2 => aB ⟨b, 3, none⟩ A fun b3 => aB ⟨b, 4, none⟩ A fun b4 => aI .i64 ⟨b, 5, none⟩ A fun n5 => K n0 n1 b2 b3 b4 n5 :=
  ld_I h e rfl (ld_I h e rfl (ld_B h e rfl (ld_B h e rfl (ld_B h e rfl (ld_I h e rfl hK)))))
theorem wr6 {K : AP} (h : Own (At b y.cells :: R) A) (hK : ∀ A', Own (At b y'.cells :: R) A' → K A') :
    aC ⟨b, 0, none⟩ (.int .i64 y'.a) A fun h0 => aC ⟨b, 1, none⟩ (.int .i64 y'.b) h0 fun h1 => aC ⟨b, 2, none⟩ (.bool y'.w) h1 fun h2 => aC ⟨b, 3, none⟩ (.bool y'.u) h2 fun h3 => aC ⟨b, 4, none⟩ (.bool y'.x) h3 fun h4 => aC ⟨b, 5, none⟩ (.int .i64 y'.k) h4 K :=
  st_C (i := 0) h rfl rfl rfl fun _ h => st_C (i := 0) h rfl rfl rfl fun _ h => st_C (i := 0) h rfl rfl rfl fun _ h => st_C (i := 0) h rfl rfl rfl fun _ h => st_C (i := 0) h rfl rfl rfl fun _ h => st_C (i := 0) h rfl rfl rfl fun A' h => hK A' h
def reg0 : Reg := ⟨0, 0, false, false, false, 0⟩
def aheadR (y : Reg) (p : Int) : Reg := { y with b := if p < y.b then p else y.b }
def inR6 (y : Reg) (p q : Int) : Reg := { y with a := if p > y.a then p else y.a, b := if q < y.b then q else y.b }
def behR (y : Reg) (q : Int) : Reg := { y with a := if q > y.a then q else y.a }
/-- What is left of a region. -/
def cut1 (p q : Int) (y : Reg) : List Reg := if (inR6 y p q).b ≤ (inR6 y p q).a then [y] else
  (if (aheadR y p).b > y.a then [aheadR y p] else []) ++ (if y.b > (behR y q).a then [behR y q] else [])
theorem cut1_len (y : Reg) : (cut1 p q y).length ≤ 2 := by
  unfold cut1
  split
  · simp
  · split <;> split <;> simp
def cutR (L : List Reg) (p q : Int) : List Reg := mergedR (L.flatMap (cut1 p q))
theorem cutF_len : ∀ L : List Reg, (L.flatMap (cut1 p q)).length ≤ 2 * L.length
  | [] => by simp
  | y :: L => by
    have h1 := cutF_len L
    have h2 := cut1_len (p := p) (q := q) y
    rw [List.flatMap_cons, List.length_append, List.length_cons]
    omega
/-- A list that is copied. -/
theorem CloneG_spec {Q : Sl → AH → Prop} (h : Own l A) (e : l[k]? = some P) (hr : Reads P s 6 (regC L)) (hb : L.length ≤ 1000) (hn : s.a = none → L = [])
    (hk : ∀ s' A', s'.len = L.length → (s'.a = none → L = []) → Own (SlO s' 6 (regC L) :: l) A' → Q s' A') : slices_Clone_region_List_region_Region_A s Q A := by
  have hl := rd_reg_len h e hr
  unfold slices_Clone_region_List_region_Region_A
  refine bsel_in (fun g => ?_) fun g => ?_
  · have g : s.a = none := by simpa using g
    have hL := hn g
    subst hL
    exact hk Sl.nil A rfl (fun _ => rfl) h.nil6
  · have g : s.a ≠ none := fun z => by rw [z] at g; cases g
    refine new_C (cs := []) h fun b1 A1 h1 => ?_
    have h2 : Own (SlO ⟨some ⟨b1, 0, none⟩, 0, 0⟩ 6 [] :: l) A1 := h1.imp fun B _ => ⟨⟨by simp, Nat.le_refl _⟩, .inl rfl⟩
    refine ap_reads (i := k) h2 e hr (fun z => absurd z g) (fun z => by cases z) rfl (fun v hv => regC_one hv) ⟨by simp only [hl]; omega, by simp only [hl]; omega⟩ fun s' A3 j1 j2 h3 => ?_
    exact hk s' A3 (by simp [j1, hl]) (fun z => regC_nil (by simpa using j2 z)) (by simpa using h3)
end Go.Dn
/- Regions: one more, at any place. -/
namespace Go.Dn

variable {A : AH} {l R : List SP} {P : SP} {i k v b o n : Nat} {s : Sl} {L : List Reg} {y y' : Reg} {p q : Int} {cs : List Value}
theorem rowA_at (h : Own l A) (e : l[i]? = some (At b cs)) (hn : o + n ≤ cs.length) : rowA A (some ⟨b, o, none⟩) n ((cs.drop o).take n) := by
  refine ⟨by simp; omega, fun j hj => ?_⟩
  refine ⟨cs[o + j]'(by omega), ?_, ?_⟩
  · rw [List.getElem?_take_of_lt hj, List.getElem?_drop]; simp
  · rw [add_at]; exact cell_at e h (by simp)
/-- A copy into cells of one's own. -/
theorem cp_at {sz m : Nat} {d x : Sl} {vs pre mid post : List Value} {K : Int → AP} (h : Own (At b (pre ++ mid ++ post) :: R) A) (hd : d.a = some ⟨b, pre.length, none⟩) (hm : Nat.min x.len d.len = m) (hl : mid.length = m * sz)
    (hr : rowA A x.a (m * sz) vs) (hvl : vs.length = m * sz) (hv : ∀ v ∈ vs, v.oneCell' = true) (hk : ∀ A', Own (At b (pre ++ vs ++ post) :: R) A' → K m A') : cpA sz d x A K := by
  refine ⟨vs, by rw [hm]; exact hr, ?_⟩
  rw [hm, hd]
  show aStL vs (Addr.add ⟨b, pre.length, none⟩ 0) 0 A _
  rw [add_at]
  exact stL_spec vs 0 A pre mid post _ h (by omega) (by omega) hv hk
theorem regC_split (L : List Reg) (v : Nat) : regC L = regC (L.take v) ++ regC (L.drop v) := by rw [← regC_app, List.take_append_drop]
theorem SlO.openS {sz : Nat} (h : Own (SlO s sz cs :: R) A) (hc : s.cap ≠ 0) : ∃ b rest, s.a = some ⟨b, 0, none⟩ ∧ s.len * sz = cs.length ∧ s.len ≤ s.cap ∧ (cs ++ rest).length = s.cap * sz ∧ Own (At b (cs ++ rest) :: R) A := by
  obtain ⟨⟨h1, h2⟩, h⟩ := h.pure
  have h3 : Own ((fun B => ∃ b rest, s.a = some ⟨b, 0, none⟩ ∧ (cs ++ rest).length = s.cap * sz ∧ At b (cs ++ rest) B) :: R) A := h.imp fun B hB => by
    rcases hB with hB | hB
    · exact absurd hB hc
    · exact hB
  obtain ⟨b, h3⟩ := h3.ex
  obtain ⟨rest, h3⟩ := h3.ex
  obtain ⟨ha, h3⟩ := h3.pure
  obtain ⟨hl, h3⟩ := h3.pure
  exact ⟨b, rest, ha, h1, h2, hl, h3⟩
theorem At.ne {b b' : Nat} {cs cs' : List Value} (h : Own (At b cs :: At b' cs' :: R) A) : b ≠ b' := by
  intro e
  subst e
  obtain ⟨B, C, h3, _, _, ⟨t, hB⟩, h5⟩ := h
  obtain ⟨D, hD, ⟨t2, hD2⟩⟩ := h5.sat
  rcases h3 b with g | g
  · rw [hB] at g; cases g
  · rw [hD _ _ hD2] at g; cases g
theorem Insert_spec {Q : Sl → AH → Prop} (h : Own (SlO s 6 (regC L) :: At b y.cells :: R) A) (hs : s.a = none → L = []) (hv : v ≤ L.length) (hb : L.length ≤ 1000)
    (hk : ∀ s' A', s'.a ≠ none → Own (SlO s' 6 (regC (L.take v ++ y :: L.drop v)) :: At b y.cells :: R) A' → Q s' A') : slices_Insert_region_List_region_Region_A s v ⟨some ⟨b, 0, none⟩, 1, 1⟩ Q A := by
  have hl : s.len = L.length := rd_reg_len (k := 0) h rfl reads_slo
  have hcap : s.len ≤ s.cap := h.sat.elim fun B hB => hB.2.1.2
  unfold slices_Insert_region_List_region_Region_A slices_Insert_region_List_region_Region_G
  have hy1 : regC [y] = y.cells := by simp [regC]
  have hone : ∀ v ∈ y.cells, v.oneCell' = true := fun v hv => regC_one (L := [y]) (by rw [hy1]; exact hv)
  refine inB_in (by omega) (by omega) (bsel_f rfl (bsel_in (fun g => ?_) fun g => ?_))
  · have g : (v : Int) = (s.len : Int) := eq_of_beq g
    have hvl : v = L.length := by omega
    subst hvl
    refine ap_reads (i := 0) (c1 := regC L) h rfl (by simpa using reads_at (n := 1) (cap := 1) (sz := 6) (cs := y.cells) (rest := []) rfl) (fun g => nomatch g) (fun g => by rw [hs g]; rfl) rfl hone ⟨by simp only [hl]; omega, by simp only [hl]; omega⟩ fun s' A3 j1 j2 h4 => ?_
    refine hk s' A3 (fun z => by have := j2 z; simp [Reg.cells] at this) ?_
    rw [List.take_length, List.drop_length, regC_app, hy1]
    exact h4
  · have g : ¬ (v : Int) = (s.len : Int) := fun z => by rw [z] at g; simp at g
    have hvl : v < L.length := by omega
    obtain ⟨b0, rest, ha, hl6, _, hroom, h⟩ := SlO.openS h (by omega)
    have hw : IntKind.wrap .i64 ((Int.ofNat s.len) + (Int.ofNat 1)) = ((L.length + 1 : Nat) : Int) := by
      show IntKind.wrap .i64 ((s.len : Int) + 1) = _
      rw [w64] <;> omega
    have hw1 : IntKind.wrap .i64 ((v : Int) + (Int.ofNat 1)) = ((v + 1 : Nat) : Int) := by
      show IntKind.wrap .i64 ((v : Int) + 1) = _
      rw [w64] <;> omega
    have hrl := regC_len L
    have hLl : (L.take v ++ y :: L.drop v).length = L.length + 1 := by simp; omega
    have ht := regC_len (L.take v)
    have hd := regC_len (L.drop v)
    simp only [List.length_take, List.length_drop] at ht hd
    have htv : (regC (L.take v)).length = v * 6 := by rw [ht, Nat.min_eq_left hv]
    have hne := At.ne h
    have ha0 : (if s.cap = 0 then s.a else Option.map (fun x => Addr.add x (0 * 6)) s.a) = some ⟨b0, 0, none⟩ := by
      rw [if_neg (by omega), ha]; rfl
    have hone2 : ∀ x ∈ regC (L.drop v), x.oneCell' = true := fun x hx => regC_one hx
    have hfin : regC (L.take v) ++ y.cells ++ regC (L.drop v) = regC (L.take v ++ y :: L.drop v) := by
      rw [regC_app, show y :: L.drop v = [y] ++ L.drop v from rfl, regC_app, hy1, List.append_assoc]
    simp only [hw, hw1, ha0, Int.toNat_natCast]
    refine bsel_in (fun g2 => ?_) fun g2 => ?_
    · -- no room
      have g2 : ((L.length + 1 : Nat) : Int) > (s.cap : Int) := of_decide_eq_true g2
      have hcl : s.cap = L.length := by omega
      refine inB_in (by omega) (by omega) ?_
      have hn : IntKind.wrap .i64 (((L.length + 1 : Nat) : Int) - (v : Int)) = ((L.length + 1 - v : Nat) : Int) := by rw [w64] <;> omega
      rw [hn]
      refine ⟨⟨by omega, by omega, by omega⟩, fun z => by simp at z; omega, fun _ => ?_⟩
      refine ⟨regC (L.take v), ?_, by simp; omega, ?_, fun cap hcap2 => ?_⟩
      · have := rowA_at (i := 0) (o := 0) (n := v * 6) h rfl (by simp; omega)
        rw [List.drop_zero, List.take_append_of_le_length (by omega)] at this
        have e2 : (regC L).take (v * 6) = regC (L.take v) := by
          rw [regC_split L v, List.take_append_of_le_length (by omega), List.take_of_length_le (by omega)]
        rw [e2] at this
        exact this
      · have := growslice_fits (need := v + (L.length + 1 - v)) (old := s.cap) (bytes := 32) (by omega) (by omega)
        simpa using this
      · have hz : (zNews 6 #[(.int .i64 (0 : Int)), (.int .i64 (0 : Int)), (.bool false), (.bool false), (.bool false), (.int .i64 (0 : Int))] ((L.length + 1 - v : Nat) : Int)).length = (L.length + 1 - v) * 6 := by
          unfold zNews
          rw [if_neg (by rw [Int.toNat_natCast]; omega), Array.length_toList, zeroCells_len, Int.toNat_natCast]; rfl
        simp only [Int.toNat_natCast] at hcap2 ⊢
        have hsz := zeroCells_len (z := #[Value.int .i64 (0 : Int), (.int .i64 (0 : Int)), (.bool false), (.bool false), (.bool false), (.int .i64 (0 : Int))]) (n := cap - (v + (L.length + 1 - v)))
        generalize Builtin.zeroCells #[Value.int .i64 (0 : Int), (.int .i64 (0 : Int)), (.bool false), (.bool false), (.bool false), (.int .i64 (0 : Int))] (cap - (v + (L.length + 1 - v))) = zs at hsz ⊢
        generalize zNews 6 #[Value.int .i64 (0 : Int), (.int .i64 (0 : Int)), (.bool false), (.bool false), (.bool false), (.int .i64 (0 : Int))] ((L.length + 1 - v : Nat) : Int) = zn at hz ⊢
        have e : (regC (L.take v)).toArray ++ zn.toArray ++ zs = (regC (L.take v) ++ zn.take 6 ++ (zn.drop 6 ++ zs.toList)).toArray := by
          apply Array.ext'
          rw [← List.append_assoc, List.append_assoc (regC (L.take v)), List.take_append_drop]
          simp
        rw [e]
        refine new_C h fun b3 A3 h3 => ?_
        have hcap3 : v + (L.length + 1 - v) ≤ cap := hcap2
        have hzs : zs.toList.length = (cap - (v + (L.length + 1 - v))) * 6 := by simpa using hsz
        clear hcap2
        generalize updA A b3 _ = A3 at h3 ⊢
        refine inB_in (by omega) (by omega) ?_
        refine cp_at (m := 1) (pre := regC (L.take v)) (vs := y.cells) h3 ?_ (by show min (_ : Nat) _ = _; dsimp only; omega) (by simp; omega) ?_ rfl hone fun A4 h4 => ?_
        · rw [if_neg (by omega)]
          show some (Addr.add ⟨b3, 0, none⟩ (v * 6)) = _
          rw [add_at, htv, Nat.zero_add]
        · have := rowA_at (i := 2) (o := 0) (n := 6) h3 rfl (by simp [Reg.cells])
          simpa [Reg.cells] using this
        refine inB_in (by omega) (by omega) (inB_in (by omega) (by omega) ?_)
        have hzl : (zn.drop 6).length = (L.length - v) * 6 := by simp; omega
        have h4 : Own (At b3 ((regC (L.take v) ++ y.cells) ++ zn.drop 6 ++ zs.toList) :: At b0 (regC L ++ rest) :: At b y.cells :: R) A4 := by simpa [List.append_assoc] using h4
        refine cp_at (m := L.length - v) (pre := regC (L.take v) ++ y.cells) (vs := regC (L.drop v)) h4 ?_ (by show min (_ : Nat) _ = _; dsimp only; omega) hzl ?_ hd hone2 fun A5 h5 => ?_
        · rw [if_neg (by omega)]
          show some (Addr.add ⟨b3, 0, none⟩ ((v + 1) * 6)) = _
          rw [add_at]; congr 2; simp [htv, Reg.cells]; omega
        · rw [if_neg (by omega), ha]
          show rowA A4 (some (Addr.add ⟨b0, 0, none⟩ (v * 6))) _ _
          rw [add_at, Nat.zero_add]
          have := rowA_at (i := 1) (o := v * 6) (n := (L.length - v) * 6) h4 rfl (by simp; omega)
          rw [List.drop_append_of_le_length (by omega), List.take_append_of_le_length (by simp; omega)] at this
          have e2 : ((regC L).drop (v * 6)).take ((L.length - v) * 6) = regC (L.drop v) := by
            rw [List.take_of_length_le (by simp; omega), regC_split L v, List.drop_append_of_le_length (by omega), List.drop_of_length_le (by omega), List.nil_append]
          rw [e2] at this
          exact this
        rw [hfin] at h5
        refine hk _ A5 (by simp) ?_
        have h6 := (h5.swap).tail
        refine h6.imp fun B hB => ⟨⟨?_, by simp; omega⟩, .inr ⟨b3, zs.toList, rfl, ?_, hB⟩⟩
        · rw [regC_len]; simp; omega
        · rw [List.length_append, regC_len, hzs]; simp; omega
    · -- there is room
      have g2 : ¬ ((L.length + 1 : Nat) : Int) > (s.cap : Int) := of_decide_eq_false g2
      have e1 : (s.cap = v + 1) = False := by simp; omega
      have e2 : (s.cap = v) = False := by simp; omega
      simp only [e1, e2, if_false]
      have ea : Option.map (fun x : Addr => x.add (v * 6)) (some ⟨b0, 0, none⟩) = some ⟨b0, v * 6, none⟩ := by
        show some (Addr.add ⟨b0, 0, none⟩ (v * 6)) = _
        rw [add_at, Nat.zero_add]
      have ea1 : Option.map (fun x : Addr => x.add ((v + 1) * 6)) (some ⟨b0, 0, none⟩) = some ⟨b0, (v + 1) * 6, none⟩ := by
        show some (Addr.add ⟨b0, 0, none⟩ ((v + 1) * 6)) = _
        rw [add_at, Nat.zero_add]
      simp only [ea, ea1]
      refine inB_in (by omega) (by omega) (inB_in (by omega) (by omega) ?_)
      obtain ⟨t1, ht1⟩ := h.at (i := 1) (b := b) rfl
      obtain ⟨t0, ht0⟩ := h.at (i := 0) (b := b0) rfl
      refine ⟨fun z => hne z.symm, ⟨_, t1, ht1⟩, ⟨_, t0, ht0, by
        have : (regC L ++ rest).length ≠ 0 := by rw [List.length_append, hrl]; omega
        simpa using this⟩, ?_⟩
      refine bsel_t rfl (inB_in (by omega) (by omega) (inB_in (by omega) (by omega) ?_))
      have hrest : rest.length = (s.cap - L.length) * 6 := by rw [List.length_append, hrl] at hroom; omega
      have h2 : Own (At b0 ((regC (L.take (v)) ++ (regC (L.drop v)).take 6) ++ ((regC (L.drop v)).drop 6 ++ rest.take 6) ++ rest.drop 6) :: At b y.cells :: R) A := by
        have : (regC (L.take (v)) ++ (regC (L.drop v)).take 6) ++ ((regC (L.drop v)).drop 6 ++ rest.take 6) ++ rest.drop 6 = regC L ++ rest := by
          rw [regC_split L v, List.append_assoc (regC (L.take v)), ← List.append_assoc ((regC (L.drop v)).take 6), List.take_append_drop]
          simp
        rw [this]; exact h
      refine cp_at (m := L.length - v) (vs := regC (L.drop v)) h2 ?_ (by show min (_ : Nat) _ = _; dsimp only; omega) (by simp; omega) ?_ hd hone2 fun A3 h3 => ?_
      · have e9 : (regC (L.take v) ++ (regC (L.drop v)).take 6).length = (v + 1) * 6 := by rw [List.length_append, List.length_take, htv, hd]; omega
        rw [e9]
      · have := rowA_at (i := 0) (o := v * 6) (n := (L.length - v) * 6) h rfl (by simp; omega)
        rw [List.drop_append_of_le_length (by omega), List.take_append_of_le_length (by simp; omega)] at this
        have e2 : ((regC L).drop (v * 6)).take ((L.length - v) * 6) = regC (L.drop v) := by
          rw [List.take_of_length_le (by simp; omega), regC_split L v, List.drop_append_of_le_length (by omega), List.drop_of_length_le (by omega), List.nil_append]
        rw [e2] at this
        exact this
      refine inB_in (by omega) (by omega) ?_
      have h3 : Own (At b0 (regC (L.take v) ++ (regC (L.drop v)).take 6 ++ (regC (L.drop v) ++ rest.drop 6)) :: At b y.cells :: R) A3 := by simpa [List.append_assoc] using h3
      refine cp_at (m := 1) (vs := y.cells) h3 ?_ (by show min (_ : Nat) _ = _; dsimp only; omega) (by simp; omega) ?_ rfl hone fun A4 h4 => ?_
      · rw [htv]
      · have := rowA_at (i := 1) (o := 0) (n := 6) h3 rfl (by simp [Reg.cells])
        simpa [Reg.cells] using this
      rw [← List.append_assoc, hfin] at h4
      refine hk _ A4 (by simp) ?_
      refine h4.imp fun B hB => ⟨⟨?_, by simp; omega⟩, .inr ⟨b0, rest.drop 6, rfl, ?_, hB⟩⟩
      · rw [regC_len]; simp; omega
      · rw [List.length_append, regC_len, hLl, List.length_drop, hrest]; show _ = s.cap * 6; omega
theorem mrgR_ne (out : List Reg) (r : Reg) : mrgR out r ≠ [] := by
  unfold mrgR
  split
  · split <;> simp
  · simp
theorem merged_ne (h : L ≠ []) : mergedR L ≠ [] := by
  have : ∀ (L : List Reg) (o : List Reg), (L ≠ [] ∨ o ≠ []) → L.foldl mrgR o ≠ [] := by
    intro L
    induction L with
    | nil => intro o h; simpa using h
    | cons y L ih => intro o _; exact ih _ (.inr (mrgR_ne o y))
  exact this L [] (.inl h)
/-- Where a region is to stand among others; none if they meet. -/
def atS (y : Reg) : List Reg → Nat → Nat → Option Nat
  | [], _, a => some a
  | x :: L, i, a => if x.b ≤ y.a then atS y L (i + 1) (i + 1) else if x.a < y.b then none else atS y L (i + 1) a
def addL (L : List Reg) (y : Reg) : List Reg := match atS y L 0 0 with
  | none => []
  | some v => mergedR (L.take v ++ y :: L.drop v)
def addE (L : List Reg) (y : Reg) : Int := if rightB y.a y.b = false then 1 else if goodB L = false then 3 else match atS y L 0 0 with
  | none => 6
  | some _ => if (addL L y).length > 64 then 4 else 0
theorem goodB_len (h : goodB L = true) : L.length ≤ 64 := by
  unfold goodB at h
  rw [Bool.and_eq_true] at h
  exact of_decide_eq_true h.1
theorem Add_spec {Q : Sl → Int → AH → Prop} (h : Own l A) (e : l[k]? = some P) (hr : Reads P s 6 (regC L)) (hn : s.a = none → L = [])
    (hk0 : ∀ A', Own l A' → addE L y ≠ 0 → Q Sl.nil (addE L y) A') (hk : ∀ s' A', addE L y = 0 → s'.a ≠ none → Own (SlO s' 6 (regC (addL L y)) :: l) A' → Q s' 0 A') : region_Add_A s y.a y.b y.w y.u y.x y.k Q A := by
  have hl := rd_reg_len h e hr
  unfold region_Add_A region_Add_G
  refine right_spec ?_
  cases hrb : rightB y.a y.b with
  | false =>
    have : addE L y = 1 := by unfold addE; rw [if_pos hrb]
    rw [this] at hk0
    exact bsel_t rfl (hk0 A h (by decide))
  | true =>
  refine bsel_f rfl (Good_spec h e hr ?_)
  cases hg : goodB L with
  | false =>
    have : addE L y = 3 := by unfold addE; rw [if_neg (by simp [hrb]), if_pos hg]
    rw [this] at hk0
    exact bsel_t rfl (hk0 A h (by decide))
  | true =>
  have hlen := goodB_len hg
  have hE : addE L y = match atS y L 0 0 with
    | none => 6
    | some _ => if (addL L y).length > 64 then 4 else 0 := by unfold addE; rw [if_neg (by simp [hrb]), if_neg (by simp [hg])]
  refine bsel_f rfl ⟨fun a x m A' => ∃ v t : Nat, x = v ∧ a = t ∧ t ≤ v ∧ m + v = L.length ∧ A' = A ∧ atS y L 0 0 = atS y (L.drop v) v t, ⟨L.length, 0, 0, rfl, rfl, Nat.le_refl _, rfl, rfl, by simp⟩, ?_⟩
  intro a x m A1 ⟨v, t, e1, e2, e3, e4, e5, e6⟩
  subst e1 e2 e5
  refine bsel_in (fun c => ?_) fun c => ?_
  · have c : (v : Int) < s.len := of_decide_eq_true c
    obtain ⟨z, hz⟩ : ∃ z, L[v]? = some z := ⟨L[v]'(by omega), by simp⟩
    have hd : L.drop v = z :: L.drop (v + 1) := by
      have hlt := (List.getElem?_eq_some_iff.1 hz).1
      rw [List.drop_eq_getElem_cons hlt]
      rw [List.getElem?_eq_getElem hlt] at hz
      rw [Option.some.inj hz]
    rw [hd, atS] at e6
    refine ⟨fun a' A' => ∃ t' : Nat, a' = t' ∧ t' ≤ v + 1 ∧ A' = A1 ∧ atS y L 0 0 = atS y (L.drop (v + 1)) (v + 1) t', fun a' A' ⟨t', f1, f2, f3, f4⟩ => ⟨m - 1, by omega, v + 1, t', by rw [w64] <;> omega, f1, f2, by omega, f3, f4⟩, ?_⟩
    obtain ⟨ad, q1, q2⟩ := rd_reg h e hr hz
    rw [q1]
    refine inB_in (by omega) c (q2 _ ?_)
    refine bsel_in (fun g => ?_) fun g => ?_
    · rw [if_pos (of_decide_eq_true g)] at e6
      exact ⟨v + 1, by rw [w64] <;> omega, Nat.le_refl _, rfl, e6⟩
    · rw [if_neg (of_decide_eq_false g)] at e6
      refine bsel_in (fun g2 => ?_) fun g2 => ?_
      · rw [if_pos (of_decide_eq_true g2)] at e6
        rw [e6] at hE
        have hE : addE L y = 6 := hE
        rw [hE] at hk0
        exact hk0 A1 h (by decide)
      · rw [if_neg (of_decide_eq_false g2)] at e6
        exact ⟨t, rfl, by omega, rfl, e6⟩
  · have c : ¬ (v : Int) < s.len := of_decide_eq_false c
    have hv : v = L.length := by omega
    subst hv
    rw [List.drop_length, atS] at e6
    have hL : addL L y = mergedR (L.take t ++ y :: L.drop t) := by unfold addL; rw [e6]
    rw [e6] at hE
    have hE : addE L y = if (addL L y).length > 64 then 4 else 0 := hE
    have hll : (L.take t ++ y :: L.drop t).length = L.length + 1 := by simp; omega
    have last : ∀ (s5 : Sl) (A4 : AH), (s5.a = none → mergedR (L.take t ++ y :: L.drop t) = []) → Own (SlO s5 6 (regC (mergedR (L.take t ++ y :: L.drop t))) :: l) A4 → region_fits_A s5 (fun s n h31 => Q s n h31) A4 := by
      intro s5 A4 hs5 h5
      rw [← hL] at hs5 h5
      unfold region_fits_A
      have hl5 : s5.len = (addL L y).length := rd_reg_len (k := 0) h5 rfl reads_slo
      refine bsel_in (fun g => ?_) fun g => ?_
      · have g : (s5.len : Int) > 64 := of_decide_eq_true g
        rw [if_pos (by omega)] at hE
        rw [hE] at hk0
        exact hk0 A4 h5.tail (by decide)
      · have g : ¬ (s5.len : Int) > 64 := of_decide_eq_false g
        rw [if_neg (by omega)] at hE
        refine hk s5 A4 hE (fun z => ?_) h5
        have h0 := hs5 z
        rw [hL] at h0
        have := merged_ne (L := L.take t ++ y :: L.drop t) (by intro z; simp at z)
        exact this h0
    have ins : ∀ (s3 : Sl) (b : Nat) (A3 : AH), (s3.a = none → L = []) → Own (SlO s3 6 (regC L) :: At b y.cells :: l) A3 → slices_Insert_region_List_region_Region_A s3 t (Sl.mk (some (Addr.mk b 0 none)) 1 1) (fun s25 h26 => region_merged_A s25 (fun s27 h28 => region_fits_A s27 (fun s29 n30 h31 => Q s29 n30 h31) h28) h26) A3 := by
      intro s3 b A3 hs3 h3
      refine Insert_spec h3 hs3 (by omega) (by omega) fun s4 A4 hs4 h4 => ?_
      exact merged_spec (k := 0) h4 rfl reads_slo (by omega) fun s5 A5 hs5 h5 => last s5 A5 hs5 (h5.cons fun C hC => hC.tail.tail)
    refine ⟨?_, ?_⟩
    · refine CloneG_spec h e hr (by omega) hn fun s3 A3 _ hs3 h3 => ?_
      refine new_C (cs := y.cells) h3 fun b A4 h4 => ins s3 b A4 hs3 h4.swap
    · refine new_C (cs := y.cells) h fun b A3 h3 => ?_
      exact CloneG_spec (k := k + 1) h3 (by simpa using e) hr (by omega) hn fun s4 A4 _ hs4 h4 => ins s4 b A4 hs4 h4
end Go.Dn
